/- Two caches of the call's own; the awake of layer 6's statements. -/
import Derived.Test.YtalnjkeajlbbpaaLfuD
import Derived.Test.YtalnjkeajlbbpaaRow3
namespace Go.Proofs.Ytalnjkeajlbbpaa
open Go.RowKit

/-- Two caches of the call's own, since w0. -/
structure L2 (w0 w : World) (bc : Nat) (G : Nat → Prop) (m : List (Itm ByteArray)) (most now : Int) (churn : Bool) (bd : Nat) (H : Nat → Prop) (m' : List (Itm ByteArray)) (most' now' : Int) (churn' : Bool) : Prop where
  a : LR w bc G m most now churn
  b : LR w bd H m' most' now' churn'
  ab : ∀ k, G k → ¬ H k
  upd : Upd Non w0 w
  fa : ∀ k, G k → w0.heap.size ≤ k
  fb : ∀ k, H k → w0.heap.size ≤ k

variable {w0 w w' : World} {bc bd : Nat} {G H : Nat → Prop} {m m' : List (Itm ByteArray)} {most now most' now' : Int} {churn churn' : Bool}

theorem L2.non (l : L2 w0 w bc G m most now churn bd H m' most' now' churn') (u : Upd Non w w') : L2 w0 w' bc G m most now churn bd H m' most' now' churn' :=
  ⟨l.a.non u, l.b.non u, l.ab, l.upd.trans u (fun _ h => h.elim), l.fa, l.fb⟩
theorem L2.left (l : L2 w0 w bc G m most now churn bd H m' most' now' churn') {G' : Nat → Prop} {n : List (Itm ByteArray)} {x y : Int} (h : LR w' bc G' n x y churn) (u : Upd G w w') (q : Within w G G') : L2 w0 w' bc G' n x y churn bd H m' most' now' churn' :=
  ⟨h, l.b.upd u (fun k hk hg => l.ab k hg hk), fun k hk hh => (q k hk).elim (fun hg => l.ab k hg hh) (fun e => by have := l.b.lt k hh; omega), l.upd.trans u (fun k hk => .inr (l.fa k hk)), fun k hk => (q k hk).elim (l.fa k) (fun e => Nat.le_trans l.upd.size e), l.fb⟩
theorem L2.swap (l : L2 w0 w bc G m most now churn bd H m' most' now' churn') : L2 w0 w bd H m' most' now' churn' bc G m most now churn :=
  ⟨l.b, l.a, fun k hh hg => l.ab k hg hh, l.upd, l.fb, l.fa⟩
theorem L2.right (l : L2 w0 w bc G m most now churn bd H m' most' now' churn') {G' : Nat → Prop} {n : List (Itm ByteArray)} {x y : Int} (h : LR w' bd G' n x y churn') (u : Upd H w w') (q : Within w H G') : L2 w0 w' bc G m most now churn bd G' n x y churn' :=
  (l.swap.left h u q).swap

/-- The first two. -/
theorem two_new {w1 w2 : World} (a : LR w1 bc G m most now churn) (u1 : Upd Non w0 w1) (ha : ∀ k, G k → w0.heap.size ≤ k) (b : LR w2 bd H m' most' now' churn') (u2 : Upd Non w1 w2) (hb : ∀ k, H k → w1.heap.size ≤ k) : L2 w0 w2 bc G m most now churn bd H m' most' now' churn' :=
  ⟨a.non u2, b, fun k hg hh => by have := a.lt k hg; have := hb k hh; omega, u1.trans u2 (fun _ h => h.elim), ha, fun k hk => Nat.le_trans u1.size (hb k hk)⟩

/-- A row that was just built. -/
theorem arr_built {w : World} {b : Nat} {vs : Array Value} {T : TypeId} {F : Nat → Prop} {l : List ByteArray} (B : Blk w b vs T) (hv : vs.toList = l.map Value.string) (hF : ¬ F b) : Arr w F (some ⟨b, 0, none⟩) 1 (strC l) := by
  intro _
  refine ⟨b, 0, rfl, B.lt, hF, fun i c hi j v hj => ?_⟩
  simp only [strC, List.getElem?_map] at hi
  cases hk : l[i]? with
  | none => rw [hk] at hi; cases hi
  | some s =>
    rw [hk] at hi
    simp only [Option.map_some, Option.some.injEq] at hi
    subst hi
    match j, hj with
    | 0, hj =>
      simp only [List.getElem?_cons_zero, Option.some.injEq] at hj
      subst hj
      refine B.cell _ ?_
      have e1 : vs.toList[i]? = some (.string s) := by rw [hv, List.getElem?_map, hk]; rfl
      simpa using e1
    | j + 1, hj => simp at hj

set_option maxRecDepth 100000 in
set_option maxHeartbeats 6400000 in
theorem awake6_is (w : World) : Calls Try.prog 24 #[] w fun e w' => e = .returned (.bool true) ∧ Upd Non w w' := by
  go_enter Try.func24, Try.ntmps24
  go_wp2_with fail
  refine (new_lr _ 2 false).mono ?_
  rintro e w1 ⟨bc, G, rfl, h1, u1, hG⟩
  go_wp2_with fail
  refine (new_lr _ 3 true).mono ?_
  rintro e w2 ⟨bd, H, rfl, h2, u2, hH⟩
  have l2 := two_new h1 u1 hG h2 u2 hH
  rw [show (max 2 0 : Int) = 2 from rfl, show (max 3 0 : Int) = 3 from rfl] at l2
  clear h1 u1 hG h2 u2 hH
  go_wp2_with fail
  refine (request_in l2.a (by decide) (by decide) (key := ⟨#[97]⟩) (by decide) false (by kernel_rfl) (.inr (by decide))).mono ?_
  rintro e w3 ⟨rfl, G3, h3, u3, q3⟩
  rw [show askM [] 0 false ⟨#[97]⟩ = [⟨⟨#[97]⟩, 1, 1, 1⟩] by kernel_rfl] at h3
  have l3 := l2.left h3 u3 q3
  clear l2 h3 u3 q3
  go_wp2_with fail
  refine (request_in l3.a (by decide) (by decide) (key := ⟨#[97]⟩) (by decide) true (by kernel_rfl) (.inl rfl)).mono ?_
  rintro e w4 ⟨rfl, G4, h4, u4, q4⟩
  rw [show askM [⟨⟨#[97]⟩, 1, 1, 1⟩] (0 + 1) false ⟨#[97]⟩ = [⟨⟨#[97]⟩, 2, 2, 2⟩] by kernel_rfl] at h4
  have l4 := l3.left h4 u4 q4
  clear l3 h4 u4 q4
  unfold stepV
  have l4' := l4.non ((Upd.refl Non w4).alloc (.cells #[.bool true, .string ⟨#[]⟩, .bool false] 57))
  have x4 : Blk (w4.alloc (.cells #[.bool true, .string ⟨#[]⟩, .bool false] 57)) w4.heap.size #[.bool true, .string ⟨#[]⟩, .bool false] 57 := Blk.new w4 _ _
  have xg4 : ¬ G4 w4.heap.size := fun h => by have := l4.a.lt _ h; omega
  have xh : ¬ H w4.heap.size := fun h => by have := l4.b.lt _ h; omega
  clear l4
  go_wp2_with fail
  refine (request_in l4'.a (by decide) (by decide) (key := ⟨#[98]⟩) (by decide) false (by kernel_rfl) (.inr (by decide))).mono ?_
  rintro e w5 ⟨rfl, G5, h5, u5, q5⟩
  rw [show askM [⟨⟨#[97]⟩, 2, 2, 2⟩] (0 + 1 + 1) false ⟨#[98]⟩ = [⟨⟨#[98]⟩, 1, 3, 3⟩, ⟨⟨#[97]⟩, 2, 2, 2⟩] by kernel_rfl] at h5
  have l5 := l4'.left h5 u5 q5
  have x5 := x4.upd u5 xg4
  have xg5 := q5.no xg4 x4.lt
  clear l4' h5 u5 q5 x4 xg4
  go_wp2_with fail
  refine (request_out l5.a (by decide) (by decide) (key := ⟨#[99]⟩) (by decide) (by kernel_rfl) (by decide)).mono ?_
  rintro e w6 ⟨rfl, G6, h6, u6, q6⟩
  rw [show askM [⟨⟨#[97]⟩, 2, 2, 2⟩] (0 + 1 + 1 + 1) false ⟨#[99]⟩ = [⟨⟨#[99]⟩, 1, 4, 4⟩, ⟨⟨#[97]⟩, 2, 2, 2⟩] by kernel_rfl] at h6
  have l6 := l5.left h6 u6 q6
  have x6 := x5.upd u6 xg5
  have xg6 := q6.no xg5 x5.lt
  clear l5 h6 u6 q6 x5 xg5
  unfold stepV
  have l6' := l6.non ((Upd.refl Non w6).alloc (.cells #[.bool false, .string ⟨#[98]⟩, .bool true] 57))
  have x7 := x6.alloc (.cells #[.bool false, .string ⟨#[98]⟩, .bool true] 57)
  have y7 : Blk (w6.alloc (.cells #[.bool false, .string ⟨#[98]⟩, .bool true] 57)) w6.heap.size #[.bool false, .string ⟨#[98]⟩, .bool true] 57 := Blk.new w6 _ _
  have yg6 : ¬ G6 w6.heap.size := fun h => by have := l6.a.lt _ h; omega
  have yh : ¬ H w6.heap.size := fun h => by have := l6.b.lt _ h; omega
  clear l6 x6
  go_wp2_with fail
  refine (request_in l6'.b (by decide) (by decide) (key := ⟨#[97]⟩) (by decide) false (by kernel_rfl) (.inr (by decide))).mono ?_
  rintro e w7 ⟨rfl, H7, h7, u7, q7⟩
  rw [show askM [] 0 true ⟨#[97]⟩ = [⟨⟨#[97]⟩, 1, -1, 1⟩] by kernel_rfl] at h7
  have l7 := l6'.right h7 u7 q7
  have x8 := x7.upd u7 xh
  have y8 := y7.upd u7 yh
  have xh7 := q7.no xh x7.lt
  have yh7 := q7.no yh y7.lt
  clear l6' h7 u7 q7 x7 y7 xh yh
  go_wp2_with fail
  refine (request_in l7.b (by decide) (by decide) (key := ⟨#[98]⟩) (by decide) false (by kernel_rfl) (.inr (by decide))).mono ?_
  rintro e w8 ⟨rfl, H8, h8, u8, q8⟩
  rw [show askM [⟨⟨#[97]⟩, 1, -1, 1⟩] (0 + 1) true ⟨#[98]⟩ = [⟨⟨#[98]⟩, 1, -2, 2⟩, ⟨⟨#[97]⟩, 1, -1, 1⟩] by kernel_rfl] at h8
  have l8 := l7.right h8 u8 q8
  have x9 := x8.upd u8 xh7
  have y9 := y8.upd u8 yh7
  clear l7 h8 u8 q8 x8 y8 xh7 yh7
  go_wp2_with fail
  refine (victim_lr l8.b (by decide) ⟨#[98]⟩ true rfl).mono ?_
  rintro e w9 ⟨rfl, u9⟩
  have l9 := l8.non u9
  have x10 := x9.upd u9 id
  have y10 := y9.upd u9 id
  clear l8 u9 x9 y9
  go_wp2_with fail
  refine (victim_lr l9.a (by decide) ⟨#[99]⟩ true rfl).mono ?_
  rintro e w10 ⟨rfl, u10⟩
  have l10 := l9.non u10
  have x11 := x10.upd u10 id
  have y11 := y10.upd u10 id
  obtain ⟨a0, a1, a2, -, -, -⟩ := blk3 x11
  obtain ⟨b0, b1, b2, -, -, -⟩ := blk3 y11
  clear l9 u10 x10 y10
  go_wp2_with fail
  refine (times_lr l10.a (by decide) (key := ⟨#[97]⟩) (by decide) 2 (by kernel_rfl)).mono ?_
  rintro e w11 ⟨rfl, u11⟩
  have l11 := l10.non u11
  clear l10 u11 x11 y11 a0 a1 a2 b0 b1 b2
  go_wp2_with fail
  refine (times_lr l11.a (by decide) (key := ⟨#[98]⟩) (by decide) 0 (by kernel_rfl)).mono ?_
  rintro e w12 ⟨rfl, u12⟩
  have l12 := l11.non u12
  clear l11 u12
  go_wp2_with fail
  refine (adopt_lr l12.b (by decide) (key := ⟨#[113]⟩) (by decide) false (by kernel_rfl) false (by decide)).mono ?_
  rintro e w13 ⟨rfl, H13, h13, u13, q13⟩
  rw [if_neg (by decide), if_neg (by decide), show askM [⟨⟨#[98]⟩, 1, -2, 2⟩, ⟨⟨#[97]⟩, 1, -1, 1⟩] (0 + 1 + 1) true ⟨#[113]⟩ = [⟨⟨#[113]⟩, 1, -3, 3⟩, ⟨⟨#[98]⟩, 1, -2, 2⟩, ⟨⟨#[97]⟩, 1, -1, 1⟩] by kernel_rfl] at h13
  have l13 := l12.right h13 u13 q13
  clear l12 h13 u13 q13
  go_wp2_with fail
  refine (adopt_lr l13.b (by decide) (key := ⟨#[113]⟩) (by decide) true (by kernel_rfl) true (by decide)).mono ?_
  rintro e w14 ⟨rfl, H14, h14, u14, q14⟩
  rw [if_pos rfl, if_pos rfl] at h14
  have l14 := l13.right h14 u14 q14
  clear l13 h14 u14 q14
  go_wp2_with fail
  refine (remove_lr l14.b (by decide) (key := ⟨#[113]⟩) (by decide) true (by kernel_rfl)).mono ?_
  rintro e w15 ⟨rfl, H15, h15, u15, q15⟩
  have l15 := l14.right h15 u15 q15
  clear l14 h15 u15 q15
  go_wp2_with fail
  refine (keys_lr l15.a (by decide)).mono ?_
  rintro e w16 ⟨av, cap, rfl, a16, u16⟩
  have l16 := l15.non u16
  rw [show keysM [⟨⟨#[99]⟩, 1, 4, 4⟩, ⟨⟨#[97]⟩, 2, 2, 2⟩] = [⟨#[99]⟩, ⟨#[97]⟩] by rfl] at a16
  clear l15 u16
  go_wp2_with fail
  generalize hW : World.alloc _ _ = w17
  have u17 : Upd Non w16 w17 := by rw [← hW]; exact (Upd.refl Non w16).alloc _
  have l17 := l16.non u17
  have a17 := a16.non u17
  have b17 : Arr w17 Non (some ⟨w16.heap.size, 0, none⟩) 1 (strC [⟨#[99]⟩, ⟨#[97]⟩]) := by rw [← hW]; exact arr_built (Blk.new w16 _ _) rfl id
  clear hW l16 a16 u17
  refine (same_is (a := [⟨#[99]⟩, ⟨#[97]⟩]) (b := [⟨#[99]⟩, ⟨#[97]⟩]) a17 b17 (by decide) true (by kernel_rfl)).mono ?_
  rintro e w18 ⟨rfl, u18⟩
  have l18 := l17.non u18
  clear l17 a17 b17 u18
  go_wp2_with fail
  refine (len_lr l18.a).mono ?_
  rintro e w19 ⟨rfl, rfl⟩
  go_wp2_with fail
  refine (has_lr l18.a (by decide) (key := ⟨#[97]⟩) (by decide) true (by kernel_rfl)).mono ?_
  rintro e w19 ⟨rfl, u19⟩
  have l19 := l18.non u19
  clear l18 u19
  go_wp2_with fail
  refine (ghosts_lr _ _).mono ?_
  rintro e w20 ⟨rfl, rfl⟩
  go_wp2_with fail
  go_ret
  exact ⟨rfl, l19.upd⟩

end Go.Proofs.Ytalnjkeajlbbpaa
