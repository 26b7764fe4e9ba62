/- Walk: the awake of layer 4's statements. -/
import Derived.Test.YtalnjkeajlbbpaaHeapS
namespace Go.Proofs.Ytalnjkeajlbbpaa
open Go.RowKit

set_option maxRecDepth 100000 in
set_option maxHeartbeats 3200000 in
theorem awake4_is (w : World) : Calls Try.prog 12 #[] w fun e w' => e = .returned (.bool true) ∧ Upd Non w w' := by
  go_enter Try.func12, Try.ntmps12
  go_wp2_with fail
  refine (new_hr _).mono ?_
  rintro e w1 ⟨bh, F1, rfl, h1, u1, hF1⟩
  have o1 : Own w w1 bh F1 [] 0 := ⟨h1, u1, hF1⟩
  go_wp2_with fail
  refine (set_hr h1 (by decide) (by decide) (by decide) (key := ⟨#[97]⟩) (by decide) 2 0).mono ?_
  rintro e w2 ⟨rfl, F2, h2, u2, q2⟩
  have e2 : setM ([] : List (Itm ByteArray)) ⟨#[97]⟩ 2 0 (0 + 1) = [⟨⟨#[97]⟩, 2, 0, 1⟩] := by kernel_rfl
  rw [e2] at h2
  have o2 := o1.step h2 u2 q2
  clear e2 h2 u2 q2 o1
  go_wp2_with fail
  refine (set_hr o2.hr (by decide) (by decide) (by decide) (key := ⟨#[98]⟩) (by decide) 1 9).mono ?_
  rintro e w3 ⟨rfl, F3, h3, u3, q3⟩
  have e3 : setM ([⟨⟨#[97]⟩, 2, 0, 1⟩] : List (Itm ByteArray)) ⟨#[98]⟩ 1 9 (0 + 1 + 1) = [⟨⟨#[98]⟩, 1, 9, 2⟩, ⟨⟨#[97]⟩, 2, 0, 1⟩] := by kernel_rfl
  rw [e3] at h3
  have o3 := o2.step h3 u3 q3
  clear e3 h3 u3 q3 o2
  go_wp2_with fail
  refine (set_hr o3.hr (by decide) (by decide) (by decide) (key := ⟨#[99]⟩) (by decide) 2 0).mono ?_
  rintro e w4 ⟨rfl, F4, h4, u4, q4⟩
  have e4 : setM ([⟨⟨#[98]⟩, 1, 9, 2⟩, ⟨⟨#[97]⟩, 2, 0, 1⟩] : List (Itm ByteArray)) ⟨#[99]⟩ 2 0 (0 + 1 + 1 + 1) = [⟨⟨#[98]⟩, 1, 9, 2⟩, ⟨⟨#[97]⟩, 2, 0, 1⟩, ⟨⟨#[99]⟩, 2, 0, 3⟩] := by kernel_rfl
  rw [e4] at h4
  have o4 := o3.step h4 u4 q4
  clear e4 h4 u4 q4 o3
  go_wp2_with fail
  refine (least_hr o4.hr (by decide) (.tuple #[.string ⟨#[98]⟩, .agg #[.int .i64 1, .int .i64 9], .bool true]) rfl).mono ?_
  rintro e w5 ⟨rfl, u5⟩
  have o5 := (o4.non u5).non ((Upd.refl Non w5).alloc (.cells #[.int .i64 1, .int .i64 9] 24))
  have n5 : ¬ F4 w5.heap.size := fun h => by have := (o4.non u5).hr.lt _ h; omega
  have k5 : Blk (w5.alloc (.cells #[.int .i64 1, .int .i64 9] 24)) w5.heap.size #[.int .i64 1, .int .i64 9] 24 := Blk.new w5 _ _
  clear o4 u5
  go_wp2_with fail
  refine (rank_hr o5.hr (by decide) (key := ⟨#[97]⟩) (by decide) (.tuple #[.agg #[.int .i64 2, .int .i64 0], .bool true]) (by kernel_rfl)).mono ?_
  rintro e w6 ⟨rfl, u6⟩
  have o6 := (o5.non u6).non ((Upd.refl Non w6).alloc (.cells #[.int .i64 2, .int .i64 0] 24))
  have n6 : ¬ F4 w6.heap.size := fun h => by have := (o5.non u6).hr.lt _ h; omega
  have k5' := (k5.upd u6 id).alloc (.cells #[.int .i64 2, .int .i64 0] 24)
  have k6 : Blk (w6.alloc (.cells #[.int .i64 2, .int .i64 0] 24)) w6.heap.size #[.int .i64 2, .int .i64 0] 24 := Blk.new w6 _ _
  clear o5 u6 k5
  go_wp2_with fail
  refine (order_hr o6.hr (by decide)).mono ?_
  rintro e w7 ⟨vo, rfl, r7, u7⟩
  obtain ⟨-, ⟨-, h0⟩ | ⟨g, cap, cur, rfl, hg1, hg, hgc, hgm, hgs, hgt⟩⟩ := r7
  · cases h0
  have hg : Blk w7 g cur 9 := hg
  have hgo : ¬ F4 g := fun h => by have := o6.hr.lt _ h; omega
  have hgl := hg.lt
  have o7 := o6.non u7
  have k57 := k5'.upd u7 id
  have k67 := k6.upd u7 id
  clear o6 u7 k5' k6
  go_wp2_with fail
  refine (pop_hr o7.hr (by decide) (.tuple #[.string ⟨#[98]⟩, .bool true]) rfl).mono ?_
  rintro e w8 ⟨rfl, F8, h8, u8, q8⟩
  have o8 := o7.step h8 u8 q8
  have k58 := k57.upd u8 n5
  have k68 := k67.upd u8 n6
  have hg8 := hg.upd u8 hgo
  have n58 := q8.no n5 k57.lt
  have n68 := q8.no n6 k67.lt
  have hgo8 := q8.no hgo hgl
  clear h8 u8 q8 o7 k57 k67 hg n5 n6 hgo hgl
  have l1 : w8.cell? ⟨g, 1, none⟩ = some (.string ⟨#[97]⟩) := hg8.cell 1 (by
    have := congrArg (fun l => l[1]?) hgt
    simp [keysV] at this
    exact this)
  have l2 : w8.cell? ⟨g, 2, none⟩ = some (.string ⟨#[99]⟩) := hg8.cell 2 (by
    have := congrArg (fun l => l[2]?) hgt
    simp [keysV] at this
    exact this)
  have r0 : w8.cell? ⟨w5.heap.size, 0, none⟩ = some (.int .i64 1) := k58.cell 0 rfl
  have r1 : w8.cell? ⟨w5.heap.size, 1, none⟩ = some (.int .i64 9) := k58.cell 1 rfl
  have x0 : w8.cell? ⟨w6.heap.size, 0, none⟩ = some (.int .i64 2) := k68.cell 0 rfl
  have HGT := hid hgt
  clear hgt hgs
  go_wp2_with fail
  refine (len_hr o8.hr).mono ?_
  rintro e w9 ⟨rfl, rfl⟩
  go_wp2_with fail
  refine (rem_hr o8.hr (by decide) (key := ⟨#[99]⟩) (by decide) true (by kernel_rfl)).mono ?_
  rintro e w10 ⟨rfl, F10, h10, u10, q10⟩
  have e10 : remM ([⟨⟨#[98]⟩, 1, 9, 2⟩, ⟨⟨#[97]⟩, 2, 0, 1⟩, ⟨⟨#[99]⟩, 2, 0, 3⟩] : List (Itm ByteArray)).tail ⟨#[99]⟩ = [⟨⟨#[97]⟩, 2, 0, 1⟩] := by kernel_rfl
  rw [e10] at h10
  have o10 := o8.step h10 u10 q10
  have k610 := k68.upd u10 n68
  have n610 := q10.no n68 k68.lt
  clear e10 h10 u10 q10 o8 l1 l2 r0 r1 x0 k58 k68 hg8 n58 n68 hgo8
  go_wp2_with fail
  refine (rem_hr o10.hr (by decide) (key := ⟨#[99]⟩) (by decide) false (by kernel_rfl)).mono ?_
  rintro e w11 ⟨rfl, F11, h11, u11, q11⟩
  have o11 := o10.step h11 u11 q11
  have k611 := k610.upd u11 n610
  clear h11 u11 q11 o10 k610 n610
  have x0 : w11.cell? ⟨w6.heap.size, 0, none⟩ = some (.int .i64 2) := k611.cell 0 rfl
  have x1 : w11.cell? ⟨w6.heap.size, 1, none⟩ = some (.int .i64 0) := k611.cell 1 rfl
  go_wp2_with fail
  refine (less_is true _ _ _ _ _ (hid (by decide))).mono ?_
  rintro e w12 ⟨rfl, u12⟩
  go_wp2_with fail
  go_ret
  exact ⟨rfl, (o11.non u12).upd⟩

end Go.Proofs.Ytalnjkeajlbbpaa
