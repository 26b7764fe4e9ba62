/- HeapTies: what its loop keeps. -/
import Derived.Test.YtalnjkeajlbbpaaArr
namespace Go.Proofs.Ytalnjkeajlbbpaa
open Go.RowKit

theorem insI_last {α : Type} (x : Itm α) : ∀ m : List (Itm α), (∀ y ∈ m, ltI x y = false) → insI x m = m ++ [x]
  | [], _ => rfl
  | y :: r, h => by
    unfold insI
    rw [h y (by simp), if_neg (by simp), insI_last x r (fun z hz => h z (by simp [hz]))]
    rfl

theorem tied_set {m : List (Itm ByteArray)} {k : ByteArray} {r1 r2 c : Int} (h : ∀ y ∈ m, y.one = r1 ∧ y.two = r2) (hc : ∀ y ∈ m, y.came ≤ c) : setM m k r1 r2 (c + 1) = remM m k ++ [⟨k, r1, r2, c + 1⟩] := by
  unfold setM
  refine insI_last _ _ (fun y hy => ?_)
  have hm := (remM_sub m k).mem hy
  obtain ⟨h1, h2⟩ := h y hm
  have h3 := hc y hm
  rw [ltI_no]
  simp only
  omega

def isIn (k : ByteArray) (l : List ByteArray) : Bool := l.any (fun s => decide (s = k))
theorem isIn_iff {k : ByteArray} {l : List ByteArray} : isIn k l = true ↔ k ∈ l := by simp [isIn]
theorem isIn_no {k : ByteArray} {l : List ByteArray} : isIn k l = false ↔ k ∉ l := by rw [← isIn_iff]; simp
theorem isIn_snoc (k x : ByteArray) (l : List ByteArray) : isIn k (l ++ [x]) = (isIn k l || decide (x = k)) := by simp [isIn]

/-- The map of what was seen. -/
def seenF (sn : List ByteArray) : ByteArray → Option Value := fun k => if isIn k sn then some (.bool true) else none

theorem seen_put (sn : List ByteArray) (x : ByteArray) : put (seenF sn) x (.bool true) = seenF (sn ++ [x]) := by
  funext k
  unfold put seenF
  rw [isIn_snoc]
  by_cases hk : k = x
  · simp [hk]
  · simp [hk, show ¬ x = k from fun e => hk e.symm]

theorem zeroB (w : World) : (zeroValue 4).run Try.prog w = .ok (.bool false) w := by kernel_rfl

theorem seen_look {w : World} {bs : Nat} {sn : List ByteArray} (h : MapA SK w bs (seenF sn) sn.length) {x : ByteArray} (hx : x.size ≤ maxLen) (b : Bool) (hb : isIn x sn = b) :
    (Instr.lookup 35 (.map (some bs)) (.string x) false).run Try.prog w = .ok (.bool b) w := by
  have := h.look1 Try.underlying35 (zeroB w) (a := x) hx
  rw [show (SK.val x) = Value.string x from rfl] at this
  rw [this, ← hb]
  unfold seenF
  cases isIn x sn <;> rfl

structure TieS (w1 w : World) (bh bs : Nat) (r1 r2 : Int) (F : Nat → Prop) (m : List (Itm ByteArray)) (c : Int) (v8 : Value) (want sn : List ByteArray) : Prop where
  own : Own w1 w bh F m c
  tied : ∀ y ∈ m, y.one = r1 ∧ y.two = r2
  len : (m.length : Int) ≤ c
  row : w.ownsRow w1.heap.size 9 1 v8 want.length (want.map Value.string)
  rowF : ∀ k, v8.ownBlock = some k → ¬ F k ∧ k ≠ bs
  mp : MapA SK w bs (seenF sn) sn.length
  mpF : ¬ F bs
  mpB : w1.heap.size ≤ bs

variable {w1 w : World} {bh bs : Nat} {r1 r2 : Int} {F : Nat → Prop} {m : List (Itm ByteArray)} {c : Int} {v8 : Value} {want sn : List ByteArray}

theorem TieS.non (t : TieS w1 w bh bs r1 r2 F m c v8 want sn) {w' : World} (u : Upd Non w w') : TieS w1 w' bh bs r1 r2 F m c v8 want sn :=
  ⟨t.own.non u, t.tied, t.len, ownsRow_upd t.row u (fun _ _ => id), t.rowF, t.mp.upd u id, t.mpF, t.mpB⟩
theorem TieS.drew (t : TieS w1 w bh bs r1 r2 F m c v8 want sn) : TieS w1 w.drew bh bs r1 r2 F m c v8 want sn := t.non ((Upd.refl Non w).drew)

theorem tie_set (t : TieS w1 w bh bs r1 r2 F m c v8 want sn) (hc : c ≤ 1000) {key : ByteArray} (hk : key.size ≤ maxLen) :
    Calls Try.prog 15 #[.pointer (some ⟨bh, 0, none⟩), .string key, .agg #[.int .i64 r1, .int .i64 r2]] w fun e w' => e = .returned (.tuple #[]) ∧
      ∃ F' m', TieS w1 w' bh bs r1 r2 F' m' (c + 1) v8 want sn ∧ keysM m' = (keysM m).filter (fun s => decide (s ≠ key)) ++ [key] := by
  have hl := t.len
  refine (set_hr t.own.hr (by omega) (by omega) (by omega) hk r1 r2).mono fun e w' ⟨he, F', h, u, q⟩ => ⟨he, F', _, ⟨t.own.step h u q, ?_, ?_, ownsRow_upd t.row u (fun k hk => (t.rowF k hk).1), fun k hk => ⟨q.no (t.rowF k hk).1 (t.row.lt k hk).2, (t.rowF k hk).2⟩, t.mp.upd u t.mpF, q.no t.mpF t.mp.lt, t.mpB⟩, ?_⟩
  · intro y hy
    rw [tied_set t.tied t.own.hr.came] at hy
    rcases List.mem_append.1 hy with hy | hy
    · exact t.tied y ((remM_sub m key).mem hy)
    · simp at hy; subst hy; exact ⟨rfl, rfl⟩
  · have := setM_len m key r1 r2 (c + 1); omega
  · rw [tied_set t.tied t.own.hr.came, ← keysM_rem]
    simp [keysM]

/-- Behind 'append'. -/
theorem tie_app (t : TieS w1 w bh bs r1 r2 F m c v8 want sn) {w' : World} {g cap : Nat} {x : ByteArray} (h : w'.ownsRow w1.heap.size 9 1 (.slice (some ⟨g, 0, none⟩) (want.length + 1) cap) (want.length + 1) (want.map Value.string ++ [.string x]))
    (hg : w.grownBy w' v8.ownBlock) (ha : v8.ownBlock = some g ∨ w.heap.size ≤ g) : TieS w1 w' bh bs r1 r2 F m c (.slice (some ⟨g, 0, none⟩) (want.length + 1) cap) (want ++ [x]) sn := by
  have u : Upd (fun k => v8.ownBlock = some k) w w' := (Upd.refl _ w).grown hg (fun k hk => .inl hk)
  refine ⟨t.own.other u (fun k hF hk => (t.rowF k hk).1 hF) (fun k hk => (t.row.lt k hk).1), t.tied, t.len, by simpa using h, fun k hk => ?_, t.mp.upd u (fun hk => (t.rowF _ hk).2 rfl), t.mpF, t.mpB⟩
  simp only [Value.ownBlock, Option.some.injEq] at hk
  subst hk
  rcases ha with ha | ha
  · exact t.rowF _ ha
  · exact ⟨fun hF => by have := t.own.hr.lt _ hF; omega, fun e => by have := t.mp.lt; omega⟩

/-- 'seen[x] = true'. -/
theorem tie_store (t : TieS w1 w bh bs r1 r2 F m c v8 want sn) (hn : sn.length ≤ 1000) {x : ByteArray} (hx : x.size ≤ maxLen) (hno : isIn x sn = false) :
    ∃ w', (Instr.mapUpdate 35 (.map (some bs)) (.string x) (.bool true)).run Try.prog w = .ok () w' ∧ TieS w1 w' bh bs r1 r2 F m c v8 want (sn ++ [x]) := by
  obtain ⟨w', hr, hm, ht⟩ := t.mp.store Try.underlying35 (by unfold maxLen; omega) (a := x) hx (.bool true)
  have u := turned_upd ht
  refine ⟨w', hr, t.own.other u (fun k hF hk => t.mpF (hk ▸ hF)) (fun k hk => hk ▸ t.mpB), t.tied, t.len, ownsRow_upd t.row u (fun k hk => (t.rowF k hk).2), t.rowF, ?_, t.mpF, t.mpB⟩
  rw [seen_put, show (seenF sn x).isSome = false by simp [seenF, hno]] at hm
  simpa using hm

theorem TieS.slice (t : TieS w1 w bh bs r1 r2 F m c v8 want sn) : ∃ av cap, v8 = .slice av want.length cap ∧ Arr w Non av 1 (strC want) := owned_arr (w0 := {w1 with heap := w1.heap}) t.row (fun _ h => h.elim)

end Go.Proofs.Ytalnjkeajlbbpaa
