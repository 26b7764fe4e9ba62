/- Walk: the statement HeapKinds. -/
import Derived.Test.YtalnjkeajlbbpaaIHeapS
import Derived.Test.YtalnjkeajlbbpaaArr
import Derived.Test.YtalnjkeajlbbpaaAwake4
import Derived.Laws.BytesArg
import Derived.Deep.RegionWith
namespace Go.Proofs.Ytalnjkeajlbbpaa
open Go.RowKit

def byteS (k : Int) : ByteArray := strOfNums [k]
def toS (y : Itm Int) : Itm ByteArray := ⟨byteS y.key, y.one, y.two, y.came⟩

theorem byteS_inj {a b : Int} (ha : 0 ≤ a ∧ a < 256) (hb : 0 ≤ b ∧ b < 256) (h : byteS a = byteS b) : a = b := by
  unfold byteS strOfNums at h
  simp only [List.map_cons, List.map_nil, ByteArray.mk.injEq] at h
  have h1 : UInt8.ofNat a.toNat = UInt8.ofNat b.toNat := by
    have := congrArg Array.toList h
    simpa using this
  have h2 := congrArg UInt8.toNat h1
  rw [UInt8.toNat_ofNat', UInt8.toNat_ofNat'] at h2
  omega

theorem insI_map (x : Itm Int) : ∀ m : List (Itm Int), (insI x m).map toS = insI (toS x) (m.map toS)
  | [] => rfl
  | y :: r => by
    rw [List.map_cons]
    unfold insI
    have : ltI (toS x) (toS y) = ltI x y := rfl
    rw [this]
    split
    · rfl
    · rw [List.map_cons, insI_map x r]

theorem set_map {m : List (Itm Int)} {j : Nat} (hj : j < 256) (hm : ∀ y ∈ m, 0 ≤ y.key ∧ y.key < (j : Int)) (r1 r2 c : Int) :
    setM (m.map toS) (byteS j) r1 r2 c = (setM m (j : Int) r1 r2 c).map toS := by
  unfold setM
  have h1 : ∀ y ∈ m, y.key ≠ (j : Int) := fun y hy => by have := hm y hy; omega
  have h2 : ∀ y ∈ m.map toS, y.key ≠ byteS j := fun y hy e => by
    obtain ⟨z, hz, rfl⟩ := List.mem_map.1 hy
    have := hm z hz
    exact h1 z hz (byteS_inj (by omega) (by omega) e)
  rw [remM_none h1, remM_none h2, insI_map]
  rfl

theorem set_keys {m : List (Itm Int)} {j : Nat} (hl : m.length = j) (hm : ∀ y ∈ m, 0 ≤ y.key ∧ y.key < (j : Int)) (r1 r2 c : Int) :
    (setM m (j : Int) r1 r2 c).length = j + 1 ∧ ∀ y ∈ setM m (j : Int) r1 r2 c, 0 ≤ y.key ∧ y.key < ((j + 1 : Nat) : Int) := by
  unfold setM
  have h1 : ∀ y ∈ m, y.key ≠ (j : Int) := fun y hy => by have := hm y hy; omega
  rw [remM_none h1]
  refine ⟨by rw [(insI_perm _ _).length_eq]; simp [hl], fun y hy => ?_⟩
  rcases List.mem_cons.1 ((insI_perm _ _).mem_iff.1 hy) with rfl | hy
  · simp only; omega
  · have := hm y hy; omega

/-- Two heaps of the call's own: keys of both kinds. -/
structure K2 (w0 w : World) (ba : Nat) (F : Nat → Prop) (ma : List (Itm ByteArray)) (ca : Int) (bb : Nat) (F' : Nat → Prop) (mb : List (Itm Int)) (cb : Int) : Prop where
  a : HR w ba F ma ca
  b : KI.HR w bb F' mb cb
  ab : ∀ k, F k → ¬ F' k
  upd : Upd Non w0 w
  fa : ∀ k, F k → w0.heap.size ≤ k
  fb : ∀ k, F' k → w0.heap.size ≤ k

variable {w0 w w' : World} {ba bb : Nat} {F F' : Nat → Prop} {ma : List (Itm ByteArray)} {mb : List (Itm Int)} {ca cb : Int}

theorem K2.non (s : K2 w0 w ba F ma ca bb F' mb cb) (u : Upd Non w w') : K2 w0 w' ba F ma ca bb F' mb cb :=
  ⟨s.a.non u, s.b.non u, s.ab, s.upd.trans u (fun _ h => h.elim), s.fa, s.fb⟩
theorem K2.left (s : K2 w0 w ba F ma ca bb F' mb cb) {G : Nat → Prop} {n : List (Itm ByteArray)} {c : Int} (h : HR w' ba G n c) (u : Upd F w w') (q : Within w F G) : K2 w0 w' ba G n c bb F' mb cb :=
  ⟨h, s.b.upd u (fun k hk hf => s.ab k hf hk), fun k hk hh => (q k hk).elim (fun hg => s.ab k hg hh) (fun e => by have := s.b.lt k hh; omega), s.upd.trans u (fun k hk => .inr (s.fa k hk)), fun k hk => (q k hk).elim (s.fa k) (fun e => Nat.le_trans s.upd.size e), s.fb⟩
theorem K2.right (s : K2 w0 w ba F ma ca bb F' mb cb) {G : Nat → Prop} {n : List (Itm Int)} {c : Int} (h : KI.HR w' bb G n c) (u : Upd F' w w') (q : Within w F' G) : K2 w0 w' ba F ma ca bb G n c :=
  ⟨s.a.upd u (fun k hk hf => s.ab k hk hf), h, fun k hk hh => (q k hh).elim (fun hg => s.ab k hk hg) (fun e => by have := s.a.lt k hk; omega), s.upd.trans u (fun k hk => .inr (s.fb k hk)), s.fa, fun k hk => (q k hk).elim (s.fb k) (fun e => Nat.le_trans s.upd.size e)⟩

theorem arr_own {base : Nat} {e : TypeId} {vo : Value} {vs : List Value} {F : Nat → Prop} (h : w.ownsRow base e 1 vo vs.length vs) (hF : ∀ k, F k → k < base) : ∃ av cap, vo = .slice av vs.length cap ∧ Arr w F av 1 (vs.map (fun u => [u])) := by
  obtain ⟨hl, ⟨rfl, h0⟩ | ⟨g, cap, cur, rfl, hb, hg, hn, hm, hs, ht⟩⟩ := h
  · refine ⟨none, 0, by rw [h0], fun hne => ?_⟩
    rw [List.length_eq_zero_iff] at h0
    subst h0
    exact absurd rfl hne
  · refine ⟨_, cap, rfl, fun hne => ⟨g, 0, rfl, Blk.lt (vs := cur) hg, fun h => by have := hF g h; omega, fun i c hi j v hj => ?_⟩⟩
    rw [List.getElem?_map] at hi
    cases hk : vs[i]? with
    | none => rw [hk] at hi; cases hi
    | some s =>
      rw [hk] at hi
      simp only [Option.map_some, Option.some.injEq] at hi
      subst hi
      match j, hj with
      | 0, hj =>
        simp only [List.getElem?_cons_zero, Option.some.injEq] at hj
        subst hj
        refine Blk.cell (vs := cur) hg _ ?_
        have e1 : (cur.toList.take (vs.length * 1))[i]? = some s := by rw [ht, hk]
        rw [List.getElem?_take] at e1
        split at e1
        · simpa using e1
        · cases e1
      | j + 1, hj => simp at hj

theorem Arr.one {av : Option Addr} {vs : List Value} (h : Arr w F av 1 (vs.map (fun u => [u]))) {i : Nat} {v : Value} (hs : vs[i]? = some v) : ∃ g off, av = some ⟨g, off, none⟩ ∧ w.cell? ⟨g, off + i, none⟩ = some v := by
  obtain ⟨g, off, he, _, _, hc⟩ := h (by intro e; simp at e; subst e; simp at hs)
  refine ⟨g, off, he, ?_⟩
  have := hc i [v] (by rw [List.getElem?_map, hs]; rfl) 0 _ rfl
  simpa using this

def rankC (l : List (Int × Int)) : List (List Value) := l.map (fun p => [.int .i64 p.1, .int .i64 p.2])

theorem Arr.rank {av : Option Addr} {l : List (Int × Int)} (h : Arr w F av 2 (rankC l)) {i : Nat} {p : Int × Int} (hs : l[i]? = some p) : ∃ g off, av = some ⟨g, off, none⟩ ∧ w.cell? ⟨g, off + i * 2, none⟩ = some (.int .i64 p.1) ∧ w.cell? ⟨g, off + i * 2 + 1, none⟩ = some (.int .i64 p.2) := by
  obtain ⟨g, off, he, _, _, hc⟩ := h (by intro e; simp [rankC] at e; subst e; simp at hs)
  have hi : (rankC l)[i]? = some [.int .i64 p.1, .int .i64 p.2] := by simp [rankC, hs]
  exact ⟨g, off, he, hc i _ hi 0 _ rfl, hc i _ hi 1 _ rfl⟩

theorem okI_nat {j : Nat} (h : j ≤ 1000000) : KI.okI (j : Int) := by
  unfold KI.okI
  simp only [Lit.wf, Bool.and_eq_true, decide_eq_true_eq]
  exact (show (-9223372036854775808 : Int) ≤ (j : Int) ∧ (j : Int) ≤ 9223372036854775807 from by omega)

/-- string([]byte{b}), of a slice just made. -/
theorem conv_is {W : World} {b : Nat} {n : Int} (hc : W.cell? ⟨b, 0, none⟩ = some (.int .u8 n)) :
    (convert 47 9 (.slice (some ⟨b, 0, none⟩) 1 1)).run Try.prog W = .ok (.string (byteS n)) W :=
  run_convert_bytes_arg W 47 5 Try.underlying47 Try.underlying5 b 0 1 1 [n] rfl (fun i hi => by cases i with
    | zero => exact hc
    | succ i => omega) 9 Try.underlying9

set_option maxRecDepth 100000 in
set_option maxHeartbeats 3200000 in
theorem kinds_is {w : World} {av : Option Addr} {cap : Nat} {l : List (Int × Int)} (hl : l.length ≤ 60) (hA : Arr w Non av 2 (rankC l)) :
    Calls Try.prog 6 #[.slice av l.length cap] w fun e w' => e = .returned (.bool true) ∧ Upd Non w w' := by
  go_enter Try.func6, Try.ntmps6
  go_wp2_with fail
  refine (awake4_is _).mono ?_
  rintro e w1 ⟨rfl, u1⟩
  have a1 := hA.non u1
  clear hA
  go_wp2_with fail
  refine (new_hr _).mono ?_
  rintro e w2 ⟨ba, F0, rfl, h2, u2, hF2⟩
  go_wp2_with fail
  refine (KI.new_hr _).mono ?_
  rintro e w3 ⟨bb, F1, rfl, h3, u3, hF3⟩
  have k3 : K2 w1 w3 ba F0 [] 0 bb F1 [] 0 := ⟨h2.non u3, h3, fun k hk hk' => by have := h2.lt k hk; have := hF3 k hk'; omega, u2.trans u3 (fun _ h => h.elim), hF2, fun k hk => by have := hF3 k hk; have := u2.size; omega⟩
  clear h2 u2 hF2 h3 u3 hF3
  go_wp2_with fail
  go_loopg [5] l.length (fun k s5 wr => ∃ (j : Nat) (F F' : Nat → Prop) (mb : List (Itm Int)), j ≤ l.length ∧ l.length - j ≤ k ∧ s5 = .int .i64 j ∧ K2 w1 wr ba F (mb.map toS) j bb F' mb j ∧ Hid (mb.length = j ∧ ∀ y ∈ mb, 0 ≤ y.key ∧ y.key < (j : Int)))
  case atStart => exact ⟨0, F0, F1, [], Nat.zero_le _, Nat.sub_le _ _, rfl, k3, hid ⟨rfl, by simp⟩⟩
  case round =>
    clear k3
    obtain ⟨j, F, F', mb, hj, hjk, rfl, s, HP⟩ := hrel
    have a := a1.non s.upd
    by_cases hlt : j < l.length
    · obtain ⟨x, hx⟩ : ∃ x, l[j]? = some x := ⟨l[j], List.getElem?_eq_getElem hlt⟩
      obtain ⟨g, off, hv, c0, c1⟩ := a.rank hx
      subst hv
      have HX := hid hx
      clear hx
      have hjl : (j : Int) < (l.length : Int) := by omega
      have hw8 : IntKind.u8.wrap (j : Int) = (j : Int) := by unfold IntKind.wrap; simp [IntKind.bits, IntKind.signed]; omega
      have hcv := conv_is (W := (wr.alloc (.cells #[.int .u8 (j : Int)] 5)).drew) (b := wr.heap.size) (n := j) ((Blk.new wr #[.int .u8 (j : Int)] 5).drew.cell 0 rfl)
      have hsa := fun W (t : K2 w1 W ba F (mb.map toS) j bb F' mb j) => (set_hr t.a (by rw [List.length_map, HP.out.1]; omega) (by omega) (by omega) (key := byteS j) (by unfold byteS maxLen; rw [strOfNums_size, List.length_singleton]; omega) x.1 x.2).mono (R' := fun e w' => e = .returned (.tuple #[]) ∧ ∃ G, K2 w1 w' ba G ((setM mb (j : Int) x.1 x.2 (j + 1)).map toS) (j + 1) bb F' mb j) (fun e w' ⟨he, G, h, u, q⟩ => ⟨he, G, by rw [← set_map (by omega) HP.out.2]; exact t.left h u q⟩)
      have hsb := fun W G ma ca (t : K2 w1 W ba G ma ca bb F' mb j) => (KI.set_hr t.b (by rw [HP.out.1]; omega) (by omega) (by omega) (key := (j : Int)) (okI_nat (by omega)) x.1 x.2).mono (R' := fun e w' => e = .returned (.tuple #[]) ∧ ∃ G', K2 w1 w' ba G ma ca bb G' (setM mb (j : Int) x.1 x.2 (j + 1)) (j + 1)) (fun e w' ⟨he, G', h, u, q⟩ => ⟨he, G', t.right h u q⟩)
      have HP' := hid (set_keys HP.out.1 HP.out.2 x.1 x.2 (j + 1))
      generalize setM mb (j : Int) x.1 x.2 (j + 1) = mb' at hsa hsb HP'
      have HS := hid (fun W (u : Upd Non w1 W) => show W.cell? ⟨g, off + j * 2, none⟩ = some (.int .i64 x.1) ∧ W.cell? ⟨g, off + j * 2 + 1, none⟩ = some (.int .i64 x.2) ∧ Upd Non w1 W from by
        obtain ⟨g', off', hv', d0, d1⟩ := (a1.non u).rank HX.out
        simp only [Option.some.injEq, Addr.mk.injEq, and_true] at hv'
        obtain ⟨rfl, rfl⟩ := hv'
        exact ⟨d0, d1, u⟩)
      go_upto_region 11 with (fail)
      obtain ⟨e0, e1, -⟩ := HS.out _ s.upd.drew
      obtain ⟨f0, f1, -⟩ := HS.out _ (s.upd.alloc (.cells #[.int .u8 (j : Int)] 5)).drew
      first | (go_region_with ((first | (go_at_call 15; refine (hsa _ (s.non ((Upd.refl Non wr).alloc _).drew)).mono ?_; rintro e w4 ⟨rfl, G, t⟩)))) | fail
      all_goals
        have d01 := HS.out _ t.upd
        obtain ⟨d0, d1, -⟩ := d01
        clear c0 c1 e0 e1 f0 f1
        go_wp2_with fail
        refine (hsb _ _ _ _ t).mono ?_
        rintro e w5 ⟨rfl, G', t'⟩
        go_wp2_with fail
        go_roundg (l.length - (j + 1))
        case measure => omega
        case rel => exact ⟨j + 1, G, G', mb', by omega, Nat.le_refl _, by go_num, t', HP'⟩
    · obtain rfl : j = l.length := by omega
      clear a a1
      have hlen := HP.out.1
      have hO := order_arr s.a (by rw [List.length_map, HP.out.1]; omega)
      go_wp2_with fail
      refine hO.mono ?_
      rintro e w3 ⟨av1, cap1, rfl, a3, u3⟩
      have s3 := s.non u3
      clear hO s u3
      rw [List.length_map]
      have hO := fun W (t : K2 w1 W ba F (mb.map toS) l.length bb F' mb l.length) => KI.order_hr t.b (by rw [HP.out.1]; omega)
      go_wp2_with fail
      refine (hO _ s3).mono ?_
      rintro e w4 ⟨vo, rfl, b4, u4⟩
      have s4 := s3.non u4
      have a4 := a3.non u4
      clear hO s3 a3 u4
      have e1 : mb.length = (KI.keysV mb).length := by simp [KI.keysV]
      rw [e1] at b4
      obtain ⟨av2, cap2, rfl, c4⟩ := arr_own b4 (F := Non) (fun _ h => h.elim)
      rw [← e1]
      clear e1
      have hu4 : Upd Non w w4 := u1.trans s4.upd (fun _ h => h.elim)
      rw [hlen]
      have HL := hid hlen
      clear hlen s4
      go_wp2_with fail
      go_loopg [8] l.length (fun k s8 wr => ∃ i : Nat, i ≤ l.length ∧ l.length - i ≤ k ∧ s8 = .int .i64 i ∧ Upd Non w4 wr)
      case atStart => exact ⟨0, Nat.zero_le _, Nat.sub_le _ _, rfl, Upd.refl _ _⟩
      case round =>
        obtain ⟨i, hi, hik, rfl, u⟩ := hrel
        by_cases hlt2 : i < l.length
        · obtain ⟨y, hy⟩ : ∃ y, mb[i]? = some y := ⟨mb[i]'(by rw [HL.out]; exact hlt2), List.getElem?_eq_getElem _⟩
          have hyk := HP.out.2 y (List.mem_iff_getElem?.2 ⟨i, hy⟩)
          have hk1 : (keysM (mb.map toS))[i]? = some (byteS y.key) := by simp [keysM, hy, toS]
          have hk2 : (KI.keysV mb)[i]? = some (.int .i64 y.key) := by simp [KI.keysV, hy]
          have hcl : ∀ W, Upd Non w4 W → ∃ g1 off1 g2 off2, av1 = some ⟨g1, off1, none⟩ ∧ av2 = some ⟨g2, off2, none⟩ ∧ W.cell? ⟨g1, off1 + i, none⟩ = some (.string (byteS y.key)) ∧ W.cell? ⟨g2, off2 + i, none⟩ = some (.int .i64 y.key) := by
            intro W u
            obtain ⟨g1, off1, h1, d1⟩ := (a4.non u).str hk1
            obtain ⟨g2, off2, h2, d2⟩ := (c4.non u).one hk2
            exact ⟨g1, off1, g2, off2, h1, h2, d1, d2⟩
          obtain ⟨g1, off1, g2, off2, rfl, rfl, d1, d2⟩ := hcl _ u
          have hcl' : ∀ W, Upd Non w4 W → W.cell? ⟨g1, off1 + i, none⟩ = some (.string (byteS y.key)) ∧ W.cell? ⟨g2, off2 + i, none⟩ = some (.int .i64 y.key) := by
            intro W u
            obtain ⟨g1', off1', g2', off2', h1, h2, d1, d2⟩ := hcl W u
            simp only [Option.some.injEq, Addr.mk.injEq, and_true] at h1 h2
            obtain ⟨rfl, rfl⟩ := h1
            obtain ⟨rfl, rfl⟩ := h2
            exact ⟨d1, d2⟩
          have hw8 : IntKind.u8.wrap y.key = y.key := by
            have h0 := hyk.1
            have h1 := hyk.2
            unfold IntKind.wrap; simp [IntKind.bits, IntKind.signed]; omega
          obtain ⟨e1, e2⟩ := hcl' _ u.drew
          obtain ⟨f1, f2⟩ := hcl' _ (u.alloc (.cells #[.int .u8 y.key] 5)).drew
          have hcv := conv_is (W := (wr.alloc (.cells #[.int .u8 y.key] 5)).drew) (b := wr.heap.size) (n := y.key) ((Blk.new wr #[.int .u8 y.key] 5).drew.cell 0 rfl)
          have hil : (i : Int) < (l.length : Int) := by omega
          have u' := (u.alloc (.cells #[.int .u8 y.key] 5)).drew
          generalize byteS y.key = bs at e1 f1 d1 hcv
          clear hcl hcl' hk1 hk2 hy hyk
          go_upto_region 19 with (fail)
          first | (go_region_with (fail)) | fail
          all_goals
            go_wp2_with fail
            go_roundg (l.length - (i + 1))
            case measure => omega
            case rel => exact ⟨i + 1, by omega, Nat.le_refl _, by go_num, u'⟩
        · obtain rfl : i = l.length := by omega
          go_wp2_with fail
          go_ret
          exact ⟨rfl, hu4.trans u (fun _ h => h.elim)⟩

set_option maxHeartbeats 800000 in
theorem kinds_all {w : World} {av : Option Addr} {cap : Nat} {l : List (Int × Int)} (hA : Arr w Non av 2 (l.map (fun p => [.int .i64 p.1, .int .i64 p.2]))) :
    Calls Try.prog 6 #[.slice av l.length cap] w fun e w' => e = .returned (.bool true) ∧ Upd Non w w' := by
  by_cases hl : l.length ≤ 60
  · exact kinds_is hl hA
  · have hl' : (60 : Int) < (l.length : Int) := by omega
    clear hA
    go_enter Try.func6, Try.ntmps6
    go_wp2_with fail
    refine (awake4_is _).mono ?_
    rintro e w1 ⟨rfl, u1⟩
    go_wp2_with fail
    go_ret
    exact ⟨rfl, u1⟩

end Go.Proofs.Ytalnjkeajlbbpaa
