/- Texts merged by merge.py: Row3, LfuE, LfuF, LfuG, LfuH. -/
import Derived.Test.YtalnjkeajlbbpaaMD
import Derived.Deep.QuietTactic
import Derived.BigQuiet
import Derived.Test.YtalnjkeajlbbpaaME

/- cachewiseref03: Same, Has. -/
namespace Go.Proofs.Ytalnjkeajlbbpaa
open Go.RowKit

theorem take_eq_all {α : Type} {a b : List α} (h : a.length = b.length) (ht : ∀ i : Nat, a[i]? = b[i]?) : a = b := List.ext_getElem? ht

set_option maxRecDepth 100000 in
set_option maxHeartbeats 1600000 in
theorem same_is {w : World} {F F' : Nat → Prop} {av av' : Option Addr} {cap cap' : Nat} {a b : List ByteArray} (hA : Arr w F av 1 (strC a)) (hB : Arr w F' av' 1 (strC b)) (ha : a.length ≤ 1000000) (r : Bool) (hr : decide (a = b) = r) :
    Calls Try.prog 34 #[.slice av a.length cap, .slice av' b.length cap'] w fun e w' => e = .returned (.bool r) ∧ Upd Non w w' := by
  have HR := hid hr
  clear hr
  by_cases hl : a.length = b.length
  · have HL := hid hl
    obtain ⟨n, hn⟩ : ∃ n, a.length = n := ⟨_, rfl⟩
    have hb : b.length = n := by rw [← hl]; exact hn
    rw [hn, hb]
    have HN := hid hn
    have HB := hid hb
    have hn1 : n ≤ 1000000 := by omega
    clear hl ha hn hb
    go_enter Try.func34, Try.ntmps34
    go_wp2_with fail
    go_loopg [5] n (fun k s5 wr => ∃ i : Nat, i ≤ n ∧ n - i ≤ k ∧ s5 = .int .i64 i ∧ Hid (∃ q, wr = w.drewN q) ∧ Hid (∀ j : Nat, j < i → a[j]? = b[j]?))
    case atStart => exact ⟨0, Nat.zero_le _, Nat.sub_le _ _, rfl, hid ⟨0, rfl⟩, hid (fun j h => by omega)⟩
    case round =>
      obtain ⟨i, hi, hik, rfl, hw, HE⟩ := hrel
      have xa := hA.non (quiet_upd hw)
      have xb := hB.non (quiet_upd hw)
      by_cases hlt : i < n
      · obtain ⟨s, hs⟩ : ∃ s, a[i]? = some s := ⟨a[i]'(by rw [HN.out]; exact hlt), List.getElem?_eq_getElem _⟩
        obtain ⟨t, ht⟩ : ∃ t, b[i]? = some t := ⟨b[i]'(by rw [HB.out]; exact hlt), List.getElem?_eq_getElem _⟩
        obtain ⟨g1, off1, hv1, c1⟩ := xa.str hs
        obtain ⟨g2, off2, hv2, c2⟩ := xb.str ht
        subst hv1 hv2
        have hi1 : (i : Int) < (n : Int) := by omega
        have HS := hid hs
        have HT := hid ht
        clear hs ht xa xb
        by_cases he : s = t
        · subst he
          go_wp2_with fail
          go_quiet (fail)
          go_wp2_with fail
          go_roundg (n - (i + 1))
          case measure => omega
          case rel => exact ⟨i + 1, by omega, Nat.le_refl _, by go_num, hid (by obtain ⟨q, hq⟩ := hw.out; exact ⟨q + nq, by rw [hq, World.drewN_drewN]⟩), hid (fun j hj => by
              by_cases hji : j = i
              · rw [hji, HS.out, HT.out]
              · exact HE.out j (by omega))⟩
        · have hne := str_ne he
          obtain rfl : false = r := by
            rw [← HR.out]
            exact (decide_eq_false (fun e => he (by have h1 := HS.out; rw [e, HT.out] at h1; exact (Option.some.inj h1).symm))).symm
          have HE' := hid he
          clear he
          go_wp2_with fail
          go_quiet (fail)
          go_wp2_with fail
          go_ret
          exact ⟨rfl, (quiet_upd hw).drewN nq⟩
      · obtain rfl : i = n := by omega
        obtain rfl : true = r := by
          rw [← HR.out]
          refine (decide_eq_true (take_eq_all HL.out (fun j => ?_))).symm
          by_cases hj : j < i
          · exact HE.out j hj
          · rw [List.getElem?_eq_none (by rw [HN.out]; omega), List.getElem?_eq_none (by rw [HB.out]; omega)]
        go_wp2_with fail
        go_ret
        exact ⟨rfl, quiet_upd hw⟩
  · obtain rfl : false = r := by
      rw [← HR.out]
      exact (decide_eq_false (fun e => hl (by rw [e]))).symm
    have hne : ((a.length : Int) == (b.length : Int)) = false := by simp; omega
    have hne2 : ¬ (a.length : Int) = (b.length : Int) := by omega
    clear hA hB
    go_enter Try.func34, Try.ntmps34
    go_wp2_with fail
    go_ret
    exact ⟨rfl, Upd.refl _ _⟩

theorem isIn_take {k : ByteArray} {l : List ByteArray} {i : Nat} {s : ByteArray} (h : l[i]? = some s) : isIn k (l.take (i + 1)) = (isIn k (l.take i) || decide (s = k)) := by
  rw [take_snoc h, isIn_snoc]

set_option maxRecDepth 100000 in
set_option maxHeartbeats 1600000 in
theorem has3_is {w : World} {F : Nat → Prop} {av : Option Addr} {cap : Nat} {a : List ByteArray} {key : ByteArray} (hA : Arr w F av 1 (strC a)) (ha : a.length ≤ 1000000) (r : Bool) (hr : isIn key a = r) :
    Calls Try.prog 30 #[.slice av a.length cap, .string key] w fun e w' => e = .returned (.bool r) ∧ w = w' := by
  have HR := hid hr
  clear hr
  obtain ⟨n, hn⟩ : ∃ n, a.length = n := ⟨_, rfl⟩
  rw [hn] at ha ⊢
  have HN := hid hn
  clear hn
  go_enter Try.func30, Try.ntmps30
  go_wp2_with fail
  go_loopg [5] n (fun k s5 wr => ∃ i : Nat, i ≤ n ∧ n - i ≤ k ∧ s5 = .int .i64 i ∧ w = wr ∧ Hid (isIn key (a.take i) = false))
  case atStart => exact ⟨0, Nat.zero_le _, Nat.sub_le _ _, rfl, rfl, hid (by simp [isIn])⟩
  case round =>
    obtain ⟨i, hi, hik, rfl, rfl, HE⟩ := hrel
    by_cases hlt : i < n
    · obtain ⟨s, hs⟩ : ∃ s, a[i]? = some s := ⟨a[i]'(by rw [HN.out]; exact hlt), List.getElem?_eq_getElem _⟩
      obtain ⟨g1, off1, hv1, c1⟩ := hA.str hs
      subst hv1
      have hi1 : (i : Int) < (n : Int) := by omega
      have HS := hid hs
      clear hs
      by_cases he : s = key
      · subst he
        obtain rfl : true = r := by rw [← HR.out]; exact (isIn_iff.2 (List.mem_iff_getElem?.2 ⟨i, HS.out⟩)).symm
        go_wp2_with fail
        go_ret
        exact ⟨rfl, rfl⟩
      · have hne := str_ne he
        have hnext : isIn key (a.take (i + 1)) = false := by rw [isIn_take HS.out, HE.out]; simpa using he
        have HX := hid hnext
        clear hnext he
        go_wp2_with fail
        go_roundg (n - (i + 1))
        case measure => omega
        case rel => exact ⟨i + 1, by omega, Nat.le_refl _, by go_num, rfl, HX⟩
    · obtain rfl : i = n := by omega
      obtain rfl : false = r := by
        have := HE.out
        rw [← HN.out, List.take_length, HR.out] at this
        exact this.symm
      go_wp2_with fail
      go_ret
      exact ⟨rfl, rfl⟩

end Go.Proofs.Ytalnjkeajlbbpaa

/- Two caches of the call's own; the awake of layer 6's statements. -/
namespace Go.Proofs.Ytalnjkeajlbbpaa
open Go.RowKit

/-- Two caches of the call's own, since w0. -/
structure L2 (w0 w : World) (bc : Nat) (G : Nat → Prop) (m : List (Itm ByteArray)) (most now : Int) (churn : Bool) (bd : Nat) (H : Nat → Prop) (m' : List (Itm ByteArray)) (most' now' : Int) (churn' : Bool) : Prop where
  a : LR w bc G m most now churn
  b : LR w bd H m' most' now' churn'
  ab : ∀ k, G k → ¬ H k
  upd : Upd Non w0 w
  fa : ∀ k, G k → w0.heap.size ≤ k
  fb : ∀ k, H k → w0.heap.size ≤ k

variable {w0 w w' : World} {bc bd : Nat} {G H : Nat → Prop} {m m' : List (Itm ByteArray)} {most now most' now' : Int} {churn churn' : Bool}

theorem L2.non (l : L2 w0 w bc G m most now churn bd H m' most' now' churn') (u : Upd Non w w') : L2 w0 w' bc G m most now churn bd H m' most' now' churn' :=
  ⟨l.a.non u, l.b.non u, l.ab, l.upd.trans u (fun _ h => h.elim), l.fa, l.fb⟩
theorem L2.left (l : L2 w0 w bc G m most now churn bd H m' most' now' churn') {G' : Nat → Prop} {n : List (Itm ByteArray)} {x y : Int} (h : LR w' bc G' n x y churn) (u : Upd G w w') (q : Within w G G') : L2 w0 w' bc G' n x y churn bd H m' most' now' churn' :=
  ⟨h, l.b.upd u (fun k hk hg => l.ab k hg hk), fun k hk hh => (q k hk).elim (fun hg => l.ab k hg hh) (fun e => by have := l.b.lt k hh; omega), l.upd.trans u (fun k hk => .inr (l.fa k hk)), fun k hk => (q k hk).elim (l.fa k) (fun e => Nat.le_trans l.upd.size e), l.fb⟩
theorem L2.swap (l : L2 w0 w bc G m most now churn bd H m' most' now' churn') : L2 w0 w bd H m' most' now' churn' bc G m most now churn :=
  ⟨l.b, l.a, fun k hh hg => l.ab k hg hh, l.upd, l.fb, l.fa⟩
theorem L2.right (l : L2 w0 w bc G m most now churn bd H m' most' now' churn') {G' : Nat → Prop} {n : List (Itm ByteArray)} {x y : Int} (h : LR w' bd G' n x y churn') (u : Upd H w w') (q : Within w H G') : L2 w0 w' bc G m most now churn bd G' n x y churn' :=
  (l.swap.left h u q).swap

/-- The first two. -/
theorem two_new {w1 w2 : World} (a : LR w1 bc G m most now churn) (u1 : Upd Non w0 w1) (ha : ∀ k, G k → w0.heap.size ≤ k) (b : LR w2 bd H m' most' now' churn') (u2 : Upd Non w1 w2) (hb : ∀ k, H k → w1.heap.size ≤ k) : L2 w0 w2 bc G m most now churn bd H m' most' now' churn' :=
  ⟨a.non u2, b, fun k hg hh => by have := a.lt k hg; have := hb k hh; omega, u1.trans u2 (fun _ h => h.elim), ha, fun k hk => Nat.le_trans u1.size (hb k hk)⟩

/-- A row that was just built. -/
theorem arr_built {w : World} {b : Nat} {vs : Array Value} {T : TypeId} {F : Nat → Prop} {l : List ByteArray} (B : Blk w b vs T) (hv : vs.toList = l.map Value.string) (hF : ¬ F b) : Arr w F (some ⟨b, 0, none⟩) 1 (strC l) := by
  intro _
  refine ⟨b, 0, rfl, B.lt, hF, fun i c hi j v hj => ?_⟩
  simp only [strC, List.getElem?_map] at hi
  cases hk : l[i]? with
  | none => rw [hk] at hi; cases hi
  | some s =>
    rw [hk] at hi
    simp only [Option.map_some, Option.some.injEq] at hi
    subst hi
    match j, hj with
    | 0, hj =>
      simp only [List.getElem?_cons_zero, Option.some.injEq] at hj
      subst hj
      refine B.cell _ ?_
      have e1 : vs.toList[i]? = some (.string s) := by rw [hv, List.getElem?_map, hk]; rfl
      simpa using e1
    | j + 1, hj => simp at hj

set_option maxRecDepth 100000 in
set_option maxHeartbeats 6400000 in
theorem awake6_is (w : World) : Calls Try.prog 24 #[] w fun e w' => e = .returned (.bool true) ∧ Upd Non w w' := by
  go_enter Try.func24, Try.ntmps24
  go_wp2_with fail
  refine (new_lr _ 2 false).mono ?_
  rintro e w1 ⟨bc, G, rfl, h1, u1, hG⟩
  go_wp2_with fail
  refine (new_lr _ 3 true).mono ?_
  rintro e w2 ⟨bd, H, rfl, h2, u2, hH⟩
  have l2 := two_new h1 u1 hG h2 u2 hH
  rw [show (max 2 0 : Int) = 2 from rfl, show (max 3 0 : Int) = 3 from rfl] at l2
  clear h1 u1 hG h2 u2 hH
  go_wp2_with fail
  refine (request_in l2.a (by decide) (by decide) (key := ⟨#[97]⟩) (by decide) false (by kernel_rfl) (.inr (by decide))).mono ?_
  rintro e w3 ⟨rfl, G3, h3, u3, q3⟩
  rw [show askM [] 0 false ⟨#[97]⟩ = [⟨⟨#[97]⟩, 1, 1, 1⟩] by kernel_rfl] at h3
  have l3 := l2.left h3 u3 q3
  clear l2 h3 u3 q3
  go_wp2_with fail
  refine (request_in l3.a (by decide) (by decide) (key := ⟨#[97]⟩) (by decide) true (by kernel_rfl) (.inl rfl)).mono ?_
  rintro e w4 ⟨rfl, G4, h4, u4, q4⟩
  rw [show askM [⟨⟨#[97]⟩, 1, 1, 1⟩] (0 + 1) false ⟨#[97]⟩ = [⟨⟨#[97]⟩, 2, 2, 2⟩] by kernel_rfl] at h4
  have l4 := l3.left h4 u4 q4
  clear l3 h4 u4 q4
  unfold stepV
  have l4' := l4.non ((Upd.refl Non w4).alloc (.cells #[.bool true, .string ⟨#[]⟩, .bool false] 57))
  have x4 : Blk (w4.alloc (.cells #[.bool true, .string ⟨#[]⟩, .bool false] 57)) w4.heap.size #[.bool true, .string ⟨#[]⟩, .bool false] 57 := Blk.new w4 _ _
  have xg4 : ¬ G4 w4.heap.size := fun h => by have := l4.a.lt _ h; omega
  have xh : ¬ H w4.heap.size := fun h => by have := l4.b.lt _ h; omega
  clear l4
  go_wp2_with fail
  refine (request_in l4'.a (by decide) (by decide) (key := ⟨#[98]⟩) (by decide) false (by kernel_rfl) (.inr (by decide))).mono ?_
  rintro e w5 ⟨rfl, G5, h5, u5, q5⟩
  rw [show askM [⟨⟨#[97]⟩, 2, 2, 2⟩] (0 + 1 + 1) false ⟨#[98]⟩ = [⟨⟨#[98]⟩, 1, 3, 3⟩, ⟨⟨#[97]⟩, 2, 2, 2⟩] by kernel_rfl] at h5
  have l5 := l4'.left h5 u5 q5
  have x5 := x4.upd u5 xg4
  have xg5 := q5.no xg4 x4.lt
  clear l4' h5 u5 q5 x4 xg4
  go_wp2_with fail
  refine (request_out l5.a (by decide) (by decide) (key := ⟨#[99]⟩) (by decide) (by kernel_rfl) (by decide)).mono ?_
  rintro e w6 ⟨rfl, G6, h6, u6, q6⟩
  rw [show askM [⟨⟨#[97]⟩, 2, 2, 2⟩] (0 + 1 + 1 + 1) false ⟨#[99]⟩ = [⟨⟨#[99]⟩, 1, 4, 4⟩, ⟨⟨#[97]⟩, 2, 2, 2⟩] by kernel_rfl] at h6
  have l6 := l5.left h6 u6 q6
  have x6 := x5.upd u6 xg5
  have xg6 := q6.no xg5 x5.lt
  clear l5 h6 u6 q6 x5 xg5
  unfold stepV
  have l6' := l6.non ((Upd.refl Non w6).alloc (.cells #[.bool false, .string ⟨#[98]⟩, .bool true] 57))
  have x7 := x6.alloc (.cells #[.bool false, .string ⟨#[98]⟩, .bool true] 57)
  have y7 : Blk (w6.alloc (.cells #[.bool false, .string ⟨#[98]⟩, .bool true] 57)) w6.heap.size #[.bool false, .string ⟨#[98]⟩, .bool true] 57 := Blk.new w6 _ _
  have yg6 : ¬ G6 w6.heap.size := fun h => by have := l6.a.lt _ h; omega
  have yh : ¬ H w6.heap.size := fun h => by have := l6.b.lt _ h; omega
  clear l6 x6
  go_wp2_with fail
  refine (request_in l6'.b (by decide) (by decide) (key := ⟨#[97]⟩) (by decide) false (by kernel_rfl) (.inr (by decide))).mono ?_
  rintro e w7 ⟨rfl, H7, h7, u7, q7⟩
  rw [show askM [] 0 true ⟨#[97]⟩ = [⟨⟨#[97]⟩, 1, -1, 1⟩] by kernel_rfl] at h7
  have l7 := l6'.right h7 u7 q7
  have x8 := x7.upd u7 xh
  have y8 := y7.upd u7 yh
  have xh7 := q7.no xh x7.lt
  have yh7 := q7.no yh y7.lt
  clear l6' h7 u7 q7 x7 y7 xh yh
  go_wp2_with fail
  refine (request_in l7.b (by decide) (by decide) (key := ⟨#[98]⟩) (by decide) false (by kernel_rfl) (.inr (by decide))).mono ?_
  rintro e w8 ⟨rfl, H8, h8, u8, q8⟩
  rw [show askM [⟨⟨#[97]⟩, 1, -1, 1⟩] (0 + 1) true ⟨#[98]⟩ = [⟨⟨#[98]⟩, 1, -2, 2⟩, ⟨⟨#[97]⟩, 1, -1, 1⟩] by kernel_rfl] at h8
  have l8 := l7.right h8 u8 q8
  have x9 := x8.upd u8 xh7
  have y9 := y8.upd u8 yh7
  clear l7 h8 u8 q8 x8 y8 xh7 yh7
  go_wp2_with fail
  refine (victim_lr l8.b (by decide) ⟨#[98]⟩ true rfl).mono ?_
  rintro e w9 ⟨rfl, u9⟩
  have l9 := l8.non u9
  have x10 := x9.upd u9 id
  have y10 := y9.upd u9 id
  clear l8 u9 x9 y9
  go_wp2_with fail
  refine (victim_lr l9.a (by decide) ⟨#[99]⟩ true rfl).mono ?_
  rintro e w10 ⟨rfl, u10⟩
  have l10 := l9.non u10
  have x11 := x10.upd u10 id
  have y11 := y10.upd u10 id
  obtain ⟨a0, a1, a2, -, -, -⟩ := blk3 x11
  obtain ⟨b0, b1, b2, -, -, -⟩ := blk3 y11
  clear l9 u10 x10 y10
  go_wp2_with fail
  refine (times_lr l10.a (by decide) (key := ⟨#[97]⟩) (by decide) 2 (by kernel_rfl)).mono ?_
  rintro e w11 ⟨rfl, u11⟩
  have l11 := l10.non u11
  clear l10 u11 x11 y11 a0 a1 a2 b0 b1 b2
  go_wp2_with fail
  refine (times_lr l11.a (by decide) (key := ⟨#[98]⟩) (by decide) 0 (by kernel_rfl)).mono ?_
  rintro e w12 ⟨rfl, u12⟩
  have l12 := l11.non u12
  clear l11 u12
  go_wp2_with fail
  refine (adopt_lr l12.b (by decide) (key := ⟨#[113]⟩) (by decide) false (by kernel_rfl) false (by decide)).mono ?_
  rintro e w13 ⟨rfl, H13, h13, u13, q13⟩
  rw [if_neg (by decide), if_neg (by decide), show askM [⟨⟨#[98]⟩, 1, -2, 2⟩, ⟨⟨#[97]⟩, 1, -1, 1⟩] (0 + 1 + 1) true ⟨#[113]⟩ = [⟨⟨#[113]⟩, 1, -3, 3⟩, ⟨⟨#[98]⟩, 1, -2, 2⟩, ⟨⟨#[97]⟩, 1, -1, 1⟩] by kernel_rfl] at h13
  have l13 := l12.right h13 u13 q13
  clear l12 h13 u13 q13
  go_wp2_with fail
  refine (adopt_lr l13.b (by decide) (key := ⟨#[113]⟩) (by decide) true (by kernel_rfl) true (by decide)).mono ?_
  rintro e w14 ⟨rfl, H14, h14, u14, q14⟩
  rw [if_pos rfl, if_pos rfl] at h14
  have l14 := l13.right h14 u14 q14
  clear l13 h14 u14 q14
  go_wp2_with fail
  refine (remove_lr l14.b (by decide) (key := ⟨#[113]⟩) (by decide) true (by kernel_rfl)).mono ?_
  rintro e w15 ⟨rfl, H15, h15, u15, q15⟩
  have l15 := l14.right h15 u15 q15
  clear l14 h15 u15 q15
  go_wp2_with fail
  refine (keys_lr l15.a (by decide)).mono ?_
  rintro e w16 ⟨av, cap, rfl, a16, u16⟩
  have l16 := l15.non u16
  rw [show keysM [⟨⟨#[99]⟩, 1, 4, 4⟩, ⟨⟨#[97]⟩, 2, 2, 2⟩] = [⟨#[99]⟩, ⟨#[97]⟩] by rfl] at a16
  clear l15 u16
  go_wp2_with fail
  generalize hW : World.alloc _ _ = w17
  have u17 : Upd Non w16 w17 := by rw [← hW]; exact (Upd.refl Non w16).alloc _
  have l17 := l16.non u17
  have a17 := a16.non u17
  have b17 : Arr w17 Non (some ⟨w16.heap.size, 0, none⟩) 1 (strC [⟨#[99]⟩, ⟨#[97]⟩]) := by rw [← hW]; exact arr_built (Blk.new w16 _ _) rfl id
  clear hW l16 a16 u17
  refine (same_is (a := [⟨#[99]⟩, ⟨#[97]⟩]) (b := [⟨#[99]⟩, ⟨#[97]⟩]) a17 b17 (by decide) true (by kernel_rfl)).mono ?_
  rintro e w18 ⟨rfl, u18⟩
  have l18 := l17.non u18
  clear l17 a17 b17 u18
  go_wp2_with fail
  refine (len_lr l18.a).mono ?_
  rintro e w19 ⟨rfl, rfl⟩
  go_wp2_with fail
  refine (has_lr l18.a (by decide) (key := ⟨#[97]⟩) (by decide) true (by kernel_rfl)).mono ?_
  rintro e w19 ⟨rfl, u19⟩
  have l19 := l18.non u19
  clear l18 u19
  go_wp2_with fail
  refine (ghosts_lr _ _).mono ?_
  rintro e w20 ⟨rfl, rfl⟩
  go_wp2_with fail
  go_ret
  exact ⟨rfl, l19.upd⟩

end Go.Proofs.Ytalnjkeajlbbpaa

/- lfu.Cache: Request in one contract; what it does to the items. -/
namespace Go.Proofs.Ytalnjkeajlbbpaa
open Go.RowKit

variable {w w' : World} {bc : Nat} {G S : Nat → Prop} {m : List (Itm ByteArray)} {most now : Int} {churn : Bool}

def hitB (m : List (Itm ByteArray)) (key : ByteArray) : Bool := (findM m key).isSome
def outB (m : List (Itm ByteArray)) (most : Int) (key : ByteArray) : Bool := !hitB m key && decide (most ≤ (m.length : Int))
def vicS (m : List (Itm ByteArray)) (most : Int) (key : ByteArray) : ByteArray := if outB m most key then (match m with | y :: _ => y.key | [] => ⟨#[]⟩) else ⟨#[]⟩
def reqM (m : List (Itm ByteArray)) (most now : Int) (churn : Bool) (key : ByteArray) : List (Itm ByteArray) := askM (if outB m most key then m.tail else m) now churn key

theorem request_lr (h : LR w bc G m most now churn) (hl : now ≤ 900000) (h0 : 0 < most) {key : ByteArray} (hk : key.size ≤ maxLen) (hit : Bool) (hh : hitB m key = hit) (s : ByteArray) (hs : vicS m most key = s) (out : Bool) (ho : outB m most key = out) :
    Calls Try.prog 28 #[.pointer (some ⟨bc, 0, none⟩), .string key] w fun e w' => e = .returned (.agg #[.bool hit, .string s, .bool out]) ∧ ∃ G', LR w' bc G' (reqM m most now churn key) most (now + 1) churn ∧ Upd G w w' ∧ Within w G G' := by
  subst hh hs
  cases out with
  | true =>
    have h1 : hitB m key = false ∧ most ≤ (m.length : Int) := by simpa [outB] using ho
    cases m with
    | nil => have h2 := h1.2; simp only [List.length_nil, Int.natCast_zero] at h2; omega
    | cons y r =>
      rw [h1.1]
      unfold reqM vicS
      rw [ho]
      exact request_out h hl h0 hk h1.1 h1.2
  | false =>
    unfold reqM vicS
    rw [ho]
    refine request_in h hl h0 hk _ rfl ?_
    cases hb : hitB m key with
    | true => exact .inl rfl
    | false =>
      refine .inr ?_
      have := ho
      simp only [outB, hb, Bool.not_false, Bool.true_and, decide_eq_false_iff_not] at this
      omega

theorem nt_find {y : Itm ByteArray} (h : NoTwice m) (hy : y ∈ m) : findM m y.key = some y := findM_some h hy rfl

theorem ask_mem (key : ByteArray) : (⟨key, timesM m key + 1, if churn then -(now + 1) else now + 1, now + 1⟩ : Itm ByteArray) ∈ askM m now churn key := by
  unfold askM setM
  exact (insI_perm _ _).mem_iff.2 (by simp)
theorem ask_times {key : ByteArray} (h : NoTwice (askM m now churn key)) : timesM (askM m now churn key) key = timesM m key + 1 := by
  have := nt_find h (ask_mem key)
  unfold timesM at this ⊢
  rw [this]

theorem remM_times (k : ByteArray) : timesM (remM m k) k = 0 := by
  unfold timesM
  rw [(remM_again m k).1]

theorem hitB_iff {key : ByteArray} : hitB m key = true ↔ ∃ y ∈ m, y.key = key := by
  unfold hitB
  rw [Option.isSome_iff_exists]
  constructor
  · rintro ⟨y, hy⟩; exact ⟨y, findM_mem hy⟩
  · rintro ⟨y, hy, hk⟩
    cases hf : findM m key with
    | some z => exact ⟨z, rfl⟩
    | none => exact absurd hk (findM_no hf y hy)
theorem hitB_no {key : ByteArray} : hitB m key = false ↔ ∀ y ∈ m, y.key ≠ key := by
  cases hb : hitB m key with
  | true => obtain ⟨y, hy, hk⟩ := hitB_iff.1 hb; simp; exact ⟨y, hy, hk⟩
  | false => simp only [true_iff]; exact fun y hy hk => by have := hitB_iff.2 ⟨y, hy, hk⟩; rw [hb] at this; cases this
theorem times_zero {key : ByteArray} (h : hitB m key = false) : timesM m key = 0 := by
  unfold timesM
  rw [findM_none (hitB_no.1 h)]
theorem hit_len {key : ByteArray} (hN : NoTwice m) (h : hitB m key = true) : (remM m key).length + 1 = m.length := by
  obtain ⟨y, hy, hk⟩ := hitB_iff.1 h
  have := (filter_one m y hN hy).length_eq
  rw [hk] at this
  simpa using this.symm
theorem ask_len (key : ByteArray) : (askM m now churn key).length = (remM m key).length + 1 := by
  unfold askM setM
  rw [(insI_perm _ _).length_eq]; rfl

theorem req_len {key : ByteArray} (hN : NoTwice m) (h0 : 0 < most) (hm : (m.length : Int) ≤ most) : ((reqM m most now churn key).length : Int) ≤ most := by
  unfold reqM
  rw [ask_len]
  cases hb : outB m most key with
  | true =>
    rw [if_pos rfl]
    have := remM_len m.tail key
    simp only [List.length_tail] at this
    omega
  | false =>
    rw [if_neg (by simp)]
    cases hh : hitB m key with
    | true => have := hit_len hN hh; omega
    | false =>
      simp only [outB, hh, Bool.not_false, Bool.true_and, decide_eq_false_iff_not] at hb
      have := remM_len m key
      omega

theorem req_times {key : ByteArray} (hN : NoTwice (reqM m most now churn key)) : timesM (reqM m most now churn key) key = timesM m key + 1 := by
  unfold reqM at hN ⊢
  rw [ask_times hN]
  cases ho : outB m most key with
  | false => rw [if_neg (by simp)]
  | true =>
    rw [if_pos rfl]
    have hh : hitB m key = false := by
      cases hb : hitB m key with
      | false => rfl
      | true => rw [outB, hb] at ho; simp at ho
    have ht : hitB m.tail key = false := hitB_no.2 (fun y hy => hitB_no.1 hh y (List.mem_of_mem_tail hy))
    rw [times_zero hh, times_zero ht]

end Go.Proofs.Ytalnjkeajlbbpaa

/- One cache of the call's own; a row of its keys; a map of their times. -/
namespace Go.Proofs.Ytalnjkeajlbbpaa
open Go.RowKit

variable {w0 w w' : World} {bc : Nat} {G S : Nat → Prop} {m : List (Itm ByteArray)} {most now : Int} {churn : Bool}

structure L1 (w0 w : World) (bc : Nat) (G : Nat → Prop) (m : List (Itm ByteArray)) (most now : Int) (churn : Bool) : Prop where
  a : LR w bc G m most now churn
  upd : Upd Non w0 w
  fa : ∀ k, G k → w0.heap.size ≤ k

theorem L1.non (l : L1 w0 w bc G m most now churn) (u : Upd Non w w') : L1 w0 w' bc G m most now churn := ⟨l.a.non u, l.upd.trans u (fun _ h => h.elim), l.fa⟩
theorem L1.step (l : L1 w0 w bc G m most now churn) {G' : Nat → Prop} {n : List (Itm ByteArray)} {x y : Int} (h : LR w' bc G' n x y churn) (u : Upd G w w') (q : Within w G G') : L1 w0 w' bc G' n x y churn :=
  ⟨h, l.upd.trans u (fun k hk => .inr (l.fa k hk)), fun k hk => (q k hk).elim (l.fa k) (fun e => Nat.le_trans l.upd.size e)⟩
theorem L1.other (l : L1 w0 w bc G m most now churn) (u : Upd S w w') (hs : ∀ k, G k → ¬ S k) (hf : ∀ k, S k → w0.heap.size ≤ k) : L1 w0 w' bc G m most now churn :=
  ⟨l.a.upd u hs, l.upd.trans u (fun k hk => .inr (hf k hk)), l.fa⟩

set_option maxHeartbeats 800000 in
theorem keys_lrF {F' : Nat → Prop} (h : LR w bc G m most now churn) (hl : now ≤ 1000000) (hF : ∀ k, F' k → k < w.heap.size) :
    Calls Try.prog 26 #[.pointer (some ⟨bc, 0, none⟩)] w fun e w' => ∃ av cap, e = .returned (.slice av m.length cap) ∧ Arr w' F' av 1 (strC (keysM m)) ∧ Upd Non w w' := by
  obtain ⟨bh, F, c, hG⟩ := h
  obtain ⟨c0, c1, c2, c3⟩ := c.cells
  have hO : Calls Try.prog 17 #[.pointer (some ⟨bh, 0, none⟩)] w fun e w' => ∃ av cap, e = .returned (.slice av m.length cap) ∧ Arr w' F' av 1 (strC (keysM m)) ∧ Upd Non w w' := by
    refine (order_hr c.hr (by have := c.len; omega)).mono fun e w' ⟨vo, he, hr, hu⟩ => ?_
    have e1 : keysV m = (keysM m).map Value.string := by simp [keysV, keysM]
    have e2 : m.length = (keysM m).length := by simp [keysM]
    rw [e1, e2] at hr
    obtain ⟨av, cap, rfl, ha⟩ := owned_arr hr (F := F') hF
    exact ⟨av, cap, by rw [he, e2], ha, hu⟩
  go_enter Try.func26, Try.ntmps26
  go_wp2_with fail
  refine hO.mono ?_
  rintro e w1 ⟨av, cap, rfl, ha, u⟩
  go_wp2_with fail
  go_ret
  exact ⟨av, cap, rfl, ha, u⟩

/-- The map of the times of the first keys. -/
def timesF (m : List (Itm ByteArray)) (sn : List ByteArray) : ByteArray → Option Value := fun k => if isIn k sn then some (.int .i64 (timesM m k)) else none

theorem times_put (m : List (Itm ByteArray)) (sn : List ByteArray) (x : ByteArray) : put (timesF m sn) x (.int .i64 (timesM m x)) = timesF m (sn ++ [x]) := by
  funext k
  unfold put timesF
  rw [isIn_snoc]
  by_cases hk : k = x
  · subst hk; simp
  · simp [hk, show ¬ x = k from fun e => hk e.symm]

theorem mem_keys {k : ByteArray} : k ∈ keysM m ↔ hitB m k = true := by
  rw [hitB_iff]
  simp [keysM]

/-- 'ahead[key]', of whatever key. -/
theorem times_look {bs n : Nat} (h : MapA SK w bs (timesF m (keysM m)) n) {x : ByteArray} (hx : x.size ≤ maxLen) (t : Int) (ht : timesM m x = t) :
    (Instr.lookup 54 (.map (some bs)) (.string x) false).run Try.prog w = .ok (.int .i64 t) w := by
  have := h.look1 Try.underlying54 (zero3 w) (a := x) hx
  rw [show (SK.val x) = Value.string x from rfl] at this
  rw [this, ← ht]
  unfold timesF
  cases hb : isIn x (keysM m) with
  | true => rfl
  | false =>
    have : hitB m x = false := by
      cases hh : hitB m x with
      | false => rfl
      | true => rw [isIn_iff.2 (mem_keys.2 hh)] at hb; cases hb
    rw [times_zero this]; rfl

theorem times_mem {y : Itm ByteArray} (hN : NoTwice m) (hy : y ∈ m) : timesM m y.key = y.one := by
  unfold timesM
  rw [nt_find hN hy]

theorem fresh_key2 (hN : NoTwice m) {i : Nat} {s : ByteArray} (h : (keysM m)[i]? = some s) : isIn s ((keysM m).take i) = false := by
  have h' := h
  simp only [keysM, List.getElem?_map] at h
  cases hz : m[i]? with
  | none => rw [hz] at h; cases h
  | some y =>
    rw [hz] at h
    simp only [Option.map_some, Option.some.injEq] at h
    rw [← h]
    exact fresh_key hN hz

theorem times_store {bs : Nat} {i : Nat} {s : ByteArray} (h : MapA SK w bs (timesF m ((keysM m).take i)) i) (hi : i ≤ 1000000) (hN : NoTwice m) (hs : (keysM m)[i]? = some s) (hx : s.size ≤ maxLen) (t : Int) (ht : timesM m s = t) :
    ∃ w', (Instr.mapUpdate 54 (.map (some bs)) (.string s) (.int .i64 t)).run Try.prog w = .ok () w' ∧ MapA SK w' bs (timesF m ((keysM m).take (i + 1))) (i + 1) ∧ Upd (fun k => k = bs) w w' := by
  obtain ⟨w', hr, hm, hu⟩ := h.store Try.underlying54 (by unfold maxLen; omega) (a := s) hx (.int .i64 t)
  refine ⟨w', hr, ?_, turned_upd hu⟩
  rw [← ht, times_put, ← take_snoc hs, show (timesF m ((keysM m).take i) s).isSome = false by simp [timesF, fresh_key2 hN hs]] at hm
  simpa using hm

/-- The first one's times are the fewest. -/
theorem head_least {y z : Itm ByteArray} {r : List (Itm ByteArray)} (h : SortedS (y :: r)) (hz : z ∈ y :: r) : y.one ≤ z.one := by
  rcases List.mem_cons.1 hz with rfl | hz
  · exact Int.le_refl _
  · have := (List.pairwise_cons.1 h).1 z hz
    rw [ltI_iff] at this
    omega

end Go.Proofs.Ytalnjkeajlbbpaa

/- lfu.Cache: Resize. -/
namespace Go.Proofs.Ytalnjkeajlbbpaa
open Go.RowKit

structure ResS (w0 : World) (G0 : Nat → Prop) (w : World) (bc b2 b5 : Nat) (G : Nat → Prop) (m : List (Itm ByteArray)) (most now : Int) (churn : Bool) (v : Value) (ks : List ByteArray) : Prop where
  c : LR w bc G m most now churn
  upd : Upd G0 w0 w
  win : Within w0 G0 G
  B2 : Blk w b2 #[.pointer (some ⟨bc, 0, none⟩)] 52
  B5 : Blk w b5 #[v] 33
  row : w.ownsRow w0.heap.size 9 1 v ks.length (ks.map Value.string)
  rowF : ∀ k, v.ownBlock = some k → ¬ G k ∧ k ≠ b2 ∧ k ≠ b5
  no2 : ¬ G b2
  no5 : ¬ G b5
  ne : b2 ≠ b5
  f2 : w0.heap.size ≤ b2
  f5 : w0.heap.size ≤ b5

variable {w0 w w' : World} {G0 G : Nat → Prop} {bc b2 b5 : Nat} {m : List (Itm ByteArray)} {most now : Int} {churn : Bool} {v : Value} {ks : List ByteArray}

theorem ResS.non (s : ResS w0 G0 w bc b2 b5 G m most now churn v ks) (u : Upd Non w w') : ResS w0 G0 w' bc b2 b5 G m most now churn v ks :=
  ⟨s.c.non u, s.upd.trans u (fun _ h => h.elim), s.win, s.B2.upd u id, s.B5.upd u id, ownsRow_upd s.row u (fun _ _ => id), s.rowF, s.no2, s.no5, s.ne, s.f2, s.f5⟩

theorem ResS.pop (s : ResS w0 G0 w bc b2 b5 G m most now churn v ks) {G' : Nat → Prop} {m' : List (Itm ByteArray)} (h : LR w' bc G' m' most now churn) (u : Upd G w w') (q : Within w G G') : ResS w0 G0 w' bc b2 b5 G' m' most now churn v ks :=
  ⟨h, s.upd.trans u s.win, fun k hk => (q k hk).elim (s.win k) (fun e => .inr (Nat.le_trans s.upd.size e)), s.B2.upd u s.no2, s.B5.upd u s.no5, ownsRow_upd s.row u (fun k hk => (s.rowF k hk).1), fun k hk => ⟨q.no (s.rowF k hk).1 (s.row.lt k hk).2, (s.rowF k hk).2⟩, q.no s.no2 s.B2.lt, q.no s.no5 s.B5.lt, s.ne, s.f2, s.f5⟩

theorem res_app (s : ResS w0 G0 w bc b2 b5 G m most now churn v ks) {g cap : Nat} {x : ByteArray} (h : w'.ownsRow w0.heap.size 9 1 (.slice (some ⟨g, 0, none⟩) (ks.length + 1) cap) (ks.length + 1) (ks.map Value.string ++ [.string x]))
    (hg : w.grownBy w' v.ownBlock) (ha : v.ownBlock = some g ∨ w.heap.size ≤ g) :
    w'.cell? ⟨b5, 0, none⟩ = some v ∧ w'.frozen? ⟨b5, 0, none⟩ = false ∧ ResS w0 G0 (w'.setCell ⟨b5, 0, none⟩ (.slice (some ⟨g, 0, none⟩) (ks.length + 1) cap)) bc b2 b5 G m most now churn (.slice (some ⟨g, 0, none⟩) (ks.length + 1) cap) (ks ++ [x]) := by
  have u : Upd (fun k => v.ownBlock = some k) w w' := (Upd.refl _ w).grown hg (fun k hk => .inl hk)
  have B5 := s.B5.upd u (fun hk => (s.rowF _ hk).2.2 rfl)
  have B2 := s.B2.upd u (fun hk => (s.rowF _ hk).2.1 rfl)
  have hgg : ¬ G g ∧ g ≠ b2 ∧ g ≠ b5 := by
    rcases ha with ha | ha
    · exact s.rowF _ ha
    · exact ⟨fun hk => by have := s.c.lt _ hk; omega, fun e => by have := s.B2.lt; omega, fun e => by have := s.B5.lt; omega⟩
  have u2 : Upd (fun k => k = b5) w' (w'.setCell ⟨b5, 0, none⟩ (.slice (some ⟨g, 0, none⟩) (ks.length + 1) cap)) := (Upd.refl _ w').set1 0 _
  refine ⟨B5.cell 0 rfl, B5.frozen 0, ⟨(s.c.upd u (fun k hk h => (s.rowF k h).1 hk)).upd u2 (fun k hk e => s.no5 (e ▸ hk)), (s.upd.trans u (fun k hk => .inr (s.row.lt k hk).1)).trans u2 (fun k hk => .inr (hk ▸ s.f5)), s.win, B2.upd u2 s.ne, B5.set 0 _, ?_, ?_, s.no2, s.no5, s.ne, s.f2, s.f5⟩⟩
  · have := ownsRow_upd h u2 (fun k hk e => by simp [Value.ownBlock] at hk; exact hgg.2.2 (hk.trans e))
    simpa using this
  · intro k hk
    simp only [Value.ownBlock, Option.some.injEq] at hk
    subst hk
    exact hgg

set_option maxRecDepth 100000 in
set_option maxHeartbeats 1600000 in
theorem goes_is {y : Itm ByteArray} {r : List (Itm ByteArray)} (s : ResS w0 G0 w bc b2 b5 G (y :: r) most now churn v ks) (hl : now ≤ 900000) (hk : ks.length ≤ 900000) :
    Calls Try.prog 64 #[.pointer (some ⟨b2, 0, none⟩), .pointer (some ⟨b5, 0, none⟩)] w fun e w' => e = .returned (.tuple #[]) ∧ ∃ G' v', ResS w0 G0 w' bc b2 b5 G' r most now churn v' (ks ++ [y.key]) := by
  obtain ⟨i0, hi, hz0, hz1, hz2⟩ := info_parts infoS
  have p0 : w.cell? ⟨b2, 0, none⟩ = some (.pointer (some ⟨bc, 0, none⟩)) := s.B2.cell 0 rfl
  obtain ⟨bh, F, c, hG⟩ := s.c
  obtain ⟨-, -, -, c3⟩ := c.cells
  have HC := pop_hr c.hr (by have := c.len; omega) (.tuple #[.string y.key, .bool true]) rfl
  go_enter Try.func64, Try.ntmps64
  go_wp2_with fail
  refine HC.mono ?_
  rintro e w1 ⟨rfl, F', h', u, q⟩
  obtain ⟨G1, l1, u1, q1⟩ := lr_heap c hG h' u q (fun z hz => List.mem_of_mem_tail hz) (by simp)
  have s1 := s.pop l1 u1 q1
  have k5 : w1.cell? ⟨b5, 0, none⟩ = some v := s1.B5.cell 0 rfl
  clear HC h' u q p0 c3 l1 u1 q1
  have s2 := s1.non ((Upd.refl Non w1).alloc (.cells #[.string y.key] 9))
  go_wp2_with (at_builtin; refine wpList_append_some rfl (.tmp 12) (.tmp 14) 33 rfl w0.heap.size 9 i0 (.string ByteArray.empty) 1 16 Try.underlying33 hi hz0 hz1 hz2 rfl (by decide) _ ks.length (ks.map Value.string) rfl (s1.row.alloc _) ⟨w1.heap.size, 0, none⟩ 1 1 [.string y.key] rfl rfl (news_blk (vs := #[.string y.key]) (Blk.new w1 _ 9)) (by simp [Value.oneCell']) (by unfold maxLen; omega) (by omega) (by have := s1.upd.size; simp; omega) (by decide) ?_; intro gg cap' w5 hown hgrow hat; obtain ⟨j0, j1, t5⟩ := res_app s2 hown hgrow (hat.imp id (fun e => Nat.le_of_eq (by rw [e]))); clear hown hgrow hat)
  go_end0
  exact ⟨rfl, G1, _, t5⟩

theorem owned_arrF {base : Nat} {e : TypeId} {vo : Value} {ks : List ByteArray} {F : Nat → Prop} (h : w.ownsRow base e 1 vo ks.length (ks.map Value.string)) (hF : ∀ k, vo.ownBlock = some k → ¬ F k) : ∃ av cap, vo = .slice av ks.length cap ∧ Arr w F av 1 (strC ks) := by
  obtain ⟨hl, ⟨rfl, h0⟩ | ⟨g, cap, cur, rfl, hb, hg, hn, hm, hs, ht⟩⟩ := h
  · refine ⟨none, 0, by rw [h0], fun hne => ?_⟩
    rw [List.length_eq_zero_iff] at h0
    subst h0
    exact absurd rfl hne
  · refine ⟨_, cap, rfl, fun hne => ⟨g, 0, rfl, Blk.lt (vs := cur) hg, hF g rfl, fun i c hi j v hj => ?_⟩⟩
    simp only [strC, List.getElem?_map] at hi
    cases hk : ks[i]? with
    | none => rw [hk] at hi; cases hi
    | some s =>
      rw [hk] at hi
      simp only [Option.map_some, Option.some.injEq] at hi
      subst hi
      match j, hj with
      | 0, hj =>
        simp only [List.getElem?_cons_zero, Option.some.injEq] at hj
        subst hj
        refine Blk.cell (vs := cur) hg _ ?_
        have e1 : (cur.toList.take (ks.length * 1))[i]? = some (.string s) := by rw [ht, List.getElem?_map, hk]; rfl
        rw [List.getElem?_take] at e1
        split at e1
        · simpa using e1
        · cases e1
      | j + 1, hj => simp at hj

set_option maxRecDepth 100000 in
set_option maxHeartbeats 1600000 in
theorem resize_lr (h : LR w bc G m most now churn) (hl : now ≤ 900000) (less k : Int) (n : Nat) (hk : max less 0 = k) (hn : (n : Int) = max 0 ((m.length : Int) - k)) :
    Calls Try.prog 44 #[.pointer (some ⟨bc, 0, none⟩), .int .i64 less] w fun e w' => ∃ av cap G', e = .returned (.slice av n cap) ∧ Arr w' G' av 1 (strC ((keysM m).take n)) ∧ LR w' bc G' (m.drop n) k now churn ∧ Upd G w w' ∧ Within w G G' := by
  have hmx := max_is less
  rw [hk] at hmx
  have hk0 : 0 ≤ k := by omega
  have HK := hid hk
  have HN := hid hn
  have hml := h.nn.2.2
  have hmb : m.length ≤ 900000 := by omega
  have hGb : G bc ∧ bc < w.heap.size := by obtain ⟨bh, F, c, hG⟩ := h; exact ⟨(hG bc).1 (.inr rfl), c.box.lt⟩
  obtain ⟨hGbc, hbc⟩ := hGb
  have c0 : w.cell? ⟨bc, 0, none⟩ = some (.int .i64 most) := by obtain ⟨bh, F, c, hG⟩ := h; exact c.cells.1
  have f0 : w.frozen? ⟨bc, 0, none⟩ = false := by obtain ⟨bh, F, c, hG⟩ := h; exact c.box.frozen 0
  have hs0 : ResS w G (((w.setCell ⟨bc, 0, none⟩ (.int .i64 k)).alloc (.cells #[.pointer (some ⟨bc, 0, none⟩)] 52)).alloc (.cells #[.slice none 0 0] 33)) bc w.heap.size (w.heap.size + 1) G (m.drop 0) k now churn (.slice none 0 0) ((keysM m).take 0) := by
    have u2 : Upd (fun x => x = bc) w (w.setCell ⟨bc, 0, none⟩ (.int .i64 k)) := (Upd.refl _ _).set1 0 _
    have hno2 : ¬ G w.heap.size := fun hk => by have := h.lt _ hk; omega
    have hno5 : ¬ G (w.heap.size + 1) := fun hk => by have := h.lt _ hk; omega
    have hL : LR (((w.setCell ⟨bc, 0, none⟩ (.int .i64 k)).alloc (.cells #[.pointer (some ⟨bc, 0, none⟩)] 52)).alloc (.cells #[.slice none 0 0] 33)) bc G (m.drop 0) k now churn := by
      obtain ⟨bh, F, c, hG⟩ := h
      have hx : LR (w.setCell ⟨bc, 0, none⟩ (.int .i64 k)) bc G m k now churn := ⟨bh, F, ⟨c.box.set 0 _, c.hr.upd u2 (fun k hk e => c.no (e ▸ hk)), c.no, c.nn, hk0, c.len, c.ones, c.twos⟩, hG⟩
      exact (hx.non ((Upd.refl Non _).alloc _)).non ((Upd.refl Non _).alloc _)
    refine ⟨hL, ((u2.mono (fun x hx => .inl (hx ▸ hGbc))).alloc _).alloc _, Within.refl _ _, (Blk.new' _ _ _ (by simp [World.setCell])).alloc _, Blk.new' _ _ _ (by simp [World.setCell]), ⟨rfl, .inl ⟨rfl, rfl⟩⟩, by simp [Value.ownBlock], hno2, hno5, by omega, Nat.le_refl _, by omega⟩
  clear hk hn
  go_enter Try.func44, Try.ntmps44
  go_wp2_with fail
  generalize w.heap.size + 1 = b5 at hs0 ⊢
  generalize w.heap.size = b2 at hs0 ⊢
  go_loopg [] n (fun kk wr => ∃ (i : Nat) (G' : Nat → Prop) (v : Value), i ≤ n ∧ n - i ≤ kk ∧ ResS w G wr bc b2 b5 G' (m.drop i) k now churn v ((keysM m).take i))
  case atStart => exact ⟨0, G, _, Nat.zero_le _, Nat.sub_le _ _, hs0⟩
  case round =>
    clear hs0
    obtain ⟨i, G', v, hi, hik, s⟩ := hrel
    have p2 : wr.cell? ⟨b2, 0, none⟩ = some (.pointer (some ⟨bc, 0, none⟩)) := s.B2.cell 0 rfl
    have c0 : wr.cell? ⟨bc, 0, none⟩ = some (.int .i64 k) := by obtain ⟨bh, F, c, hG⟩ := s.c; exact c.cells.1
    have hL : ∀ n, Calls Try.prog 29 #[.pointer (some ⟨bc, 0, none⟩)] (wr.drewN n) fun e w' => e = .returned (.int .i64 (m.drop i).length) ∧ w' = wr.drewN n := fun n => (len_lr (s.c.non ((Upd.refl Non wr).drewN n))).mono (fun e w' h => ⟨h.1, h.2.symm⟩)
    by_cases hlt : i < n
    · have him : i < m.length := by have := HN.out; omega
      obtain ⟨y, hy⟩ : ∃ y, m[i]? = some y := ⟨m[i], List.getElem?_eq_getElem him⟩
      have hd : decide (k < ((m.drop i).length : Int)) = true := by have := HN.out; simp; omega
      generalize (m.drop i).length = len at hL hd
      rw [drop_cons hy] at s
      have hky : (keysM m)[i]? = some y.key := by simp [keysM, hy]
      have hS := fun q => goes_is (s.non ((Upd.refl Non wr).drewN q)) hl (by have := (keysM m).length_take_le i; simp; omega)
      rw [← take_snoc hky] at hS
      clear hy hky
      go_wp2_with fail
      go_quiet ((go_at_call 29; exact Calls.quiet_of_same (hL _)))
      go_wp2_with fail
      refine (hS _).mono ?_
      rintro e w5 ⟨rfl, G5, v5, s5⟩
      go_wp2_with fail
      go_roundg (n - (i + 1))
      case measure => omega
      case rel => exact ⟨i + 1, G5, v5, by omega, Nat.le_refl _, s5⟩
    · obtain rfl : i = n := by omega
      have hd : decide (k < ((m.drop i).length : Int)) = false := by have := HN.out; simp; omega
      generalize (m.drop i).length = len at hL hd
      have hlen : ((keysM m).take i).length = i := by
        have h1 : (keysM m).length = m.length := by simp [keysM]
        have := HN.out
        rw [List.length_take, h1]; omega
      obtain ⟨av, cap, hv, ha⟩ := owned_arrF (F := G') s.row (fun k hk => (s.rowF k hk).1)
      rw [hlen] at hv
      subst hv
      have p5 : wr.cell? ⟨b5, 0, none⟩ = some (.slice av i cap) := s.B5.cell 0 rfl
      clear hlen
      go_wp2_with fail
      go_quiet ((go_at_call 29; exact Calls.quiet_of_same (hL _)))
      go_wp2_with fail
      go_ret
      have u := (Upd.refl Non wr).drewN nq
      exact ⟨av, cap, G', rfl, ha.non u, s.c.non u, s.upd.trans u (fun _ h => h.elim), s.win⟩

end Go.Proofs.Ytalnjkeajlbbpaa
