/- Texts merged by merge.py: Open, OpenR, OpenI, Act5. -/
import Derived.Test.YtalnjkeajlbbpaaMD
import Derived.ProofKit
import Derived.OpenShut
import Derived.ShutString
import Derived.ChangeOld
import Derived.Lib.SmallJoins
import Derived.Deep.Slices
import Derived.Deep.Strs

/- Arguments opened: slices of strings, of ranks, of calls; as 'Arr'. -/
namespace Go.Proofs.Ytalnjkeajlbbpaa
open Go.ChangeShapes Go.WideShapes Go.ChangeAt Go.RowKit
open Go.ChangeMaps (open_string shut_string)

theorem own : ownKnob Try.prog.godebug = none := by kernel_rfl
theorem laidOut : laidOutB Try.prog = true := by kernel_rfl

theorem list_of {α : Type} {f : α → List Value} {R : α → Prop} : ∀ {l : List (List Value)}, (∀ c ∈ l, ∃ a, c = f a ∧ R a) → ∃ l' : List α, l = l'.map f ∧ ∀ a ∈ l', R a
  | [], _ => ⟨[], rfl, by simp⟩
  | c :: l, h => by
    obtain ⟨a, ha, hR⟩ := h c (by simp)
    obtain ⟨l', hl, hR'⟩ := list_of (l := l) (fun c hc => h c (by simp [hc]))
    exact ⟨a :: l', by rw [hl, ha]; rfl, fun b hb => by
      rcases List.mem_cons.1 hb with rfl | hb
      · exact hR
      · exact hR' b hb⟩

/-- A slice that came in, of whatever elements. -/
theorem open_arr {H : Type} {enc : TypeId × Value → H} {P : Program} {W : World} {sp : Nat → Bool} {held : Bool} {t e k fuel len cap : Nat} {av : Option Addr} {x : DataW H × List MemPlace} (ht : P.underlying t = some (.slice e)) (hk : P.cellsOf e = k) (hk0 : 0 < k)
    (h : DataW.trod enc P W 0 sp held fuel t [.slice av len cap] = some x) {Q : List Value → Prop} (hQ : ∀ n cs y, DataW.trod enc P W 0 sp held n e cs = some y → Q cs) :
    ∃ l : List (List Value), l.length = len ∧ (∀ c ∈ l, Q c) ∧ Arr W Non av k l := by
  rcases Go.Deep.open_slice ht h with ⟨hc, _⟩ | ⟨a, len', cap', m, n, D, Pl, hc, _, hl, hm, hmm, _, hx⟩
  · simp only [List.cons.injEq, Value.slice.injEq, and_true] at hc
    obtain ⟨rfl, rfl, rfl⟩ := hc
    exact ⟨[], rfl, by simp, fun h => absurd rfl h⟩
  · simp only [List.cons.injEq, Value.slice.injEq, and_true] at hc
    obtain ⟨rfl, rfl, rfl⟩ := hc
    rw [hk] at hx
    have hlm : len ≤ m := by rw [hmm]; split <;> omega
    obtain ⟨C, hC⟩ := Go.Deep.choose_lt (α := List Value) (p := fun i c => W.cells? 0 (a.add (i * k)) k = some c ∧ Q c) (n := len) (fun i hi => by
      obtain ⟨cs, h1, h2⟩ := hx i (by omega)
      exact ⟨cs, h1, hQ _ _ _ h2⟩)
    refine ⟨(List.range len).map C, by simp, ?_, fun hne => ?_⟩
    · intro c hc
      obtain ⟨i, hi, rfl⟩ := List.mem_map.1 hc
      exact (hC i (List.mem_range.1 hi)).2
    · have h0 : 0 < len := by
        rcases Nat.eq_zero_or_pos len with h | h
        · subst h; simp at hne
        · exact h
      have hcell : ∀ i, i < len → ∀ (j : Nat) (v : Value), (C i)[j]? = some v → W.cell? (a.add (i * k + j)) = some v := by
        intro i hi j v hj
        obtain ⟨_, hlen, hg⟩ := World.cells?_some (hC i hi).1
        have hjk : j < k := by rw [← hlen]; exact (List.getElem?_eq_some_iff.1 hj).1
        have := hg j hjk
        rw [hj, Go.Deep.add_add] at this
        exact this
      obtain ⟨_, hlen0, _⟩ := World.cells?_some (hC 0 h0).1
      have hc0 := hcell 0 h0 0 ((C 0)[0]'(by omega)) (List.getElem?_eq_getElem _)
      have hs := World.cell?_spot hc0
      obtain ⟨b, off, spot⟩ := a
      have hspot : spot = none := by simpa [Addr.add] using hs
      subst hspot
      have hb : b < W.heap.size := by
        have := World.block_lt_of_cell? W _ hc0
        simpa [Addr.add] using this
      refine ⟨b, off, rfl, hb, id, fun i c hi j v hj => ?_⟩
      simp only [List.getElem?_map] at hi
      have hil : i < len := by
        rcases Nat.lt_or_ge i len with h | h
        · exact h
        · rw [List.getElem?_eq_none (by simpa using h)] at hi; simp at hi
      rw [List.getElem?_eq_getElem (by simpa using hil)] at hi
      simp only [List.getElem_range, Option.map_some, Option.some.injEq] at hi
      subst hi
      have := hcell i hil j v hj
      rw [Addr.add_lit] at this
      rw [Nat.add_assoc]
      exact this

theorem cells9 : Try.prog.cellsOf 9 = 1 := by kernel_rfl
theorem cells3 : Try.prog.cellsOf 3 = 1 := by kernel_rfl

section
variable {H : Type} {enc : TypeId × Value → H} {W : World} {sp : Nat → Bool} {held : Bool} {fuel len cap : Nat} {av : Option Addr} {x : DataW H × List MemPlace}

theorem open_strs (h : DataW.trod enc Try.prog W 0 sp held fuel 33 [.slice av len cap] = some x) : ∃ l : List ByteArray, l.length = len ∧ (∀ s ∈ l, s.size ≤ maxLen) ∧ Arr W Non av 1 (strC l) := by
  obtain ⟨l, hl, hQ, ha⟩ := open_arr Try.underlying33 cells9 (by decide) h (Q := fun c => ∃ s : ByteArray, c = [.string s] ∧ s.size ≤ maxLen) (fun n cs y hy => by
    obtain ⟨s, hs, _, hz⟩ := DataW.trod_string Try.underlying9 hy
    exact ⟨s, hs, hz⟩)
  obtain ⟨l', rfl, hR⟩ := list_of hQ
  exact ⟨l', by simpa using hl, hR, ha⟩
theorem cells31 : Try.prog.cellsOf 31 = 4 := by kernel_rfl
theorem cells24 : Try.prog.cellsOf 24 = 2 := by kernel_rfl

theorem list4 {α : Type} {l : List α} (h : l.length = 4) : ∃ a b c d, l = [a, b, c, d] := by
  match l, h with
  | [a, b, c, d], _ => exact ⟨a, b, c, d, rfl⟩
theorem list2 {α : Type} {l : List α} (h : l.length = 2) : ∃ a b, l = [a, b] := by
  match l, h with
  | [a, b], _ => exact ⟨a, b, rfl⟩

theorem open_rank {n : Nat} {cs : List Value} {y : DataW H × List MemPlace} (h : DataW.trod enc Try.prog W 0 sp held n 24 cs = some y) : ∃ a b : Int, cs = [.int .i64 a, .int .i64 b] := by
  obtain ⟨y0, y1, m, _, hl, h0, h1⟩ := trod_struct2 Try.underlying24 h
  rw [cells24] at hl
  obtain ⟨c0, c1, rfl⟩ := list2 hl
  rw [cells3] at h0 h1
  obtain ⟨a, ha, _, _⟩ := DataW.trod_int Try.underlying3 h0
  obtain ⟨b, hb, _, _⟩ := DataW.trod_int Try.underlying3 h1
  simp at ha hb
  exact ⟨a, b, by rw [ha, hb]⟩

theorem open_acts4 (h : DataW.trod enc Try.prog W 0 sp held fuel 22 [.slice av len cap] = some x) : ∃ l : List Act4, l.length = len ∧ (∀ a ∈ l, a.key.size ≤ maxLen) ∧ Arr W Non av 4 (act4C l) := by
  obtain ⟨l, hl, hQ, ha⟩ := open_arr Try.underlying22 cells31 (by decide) h (Q := fun c => ∃ a : Act4, c = [.int .i64 a.kind, .string a.key, .int .i64 a.one, .int .i64 a.two] ∧ a.key.size ≤ maxLen) (fun n cs y hy => by
    obtain ⟨y0, y1, y2, m, _, hl, h0, h1, h2⟩ := Go.Deep.trod_struct3 Try.underlying31 hy
    rw [cells31] at hl
    obtain ⟨c0, c1, c2, c3, rfl⟩ := list4 hl
    rw [cells3] at h0
    rw [cells9] at h1
    rw [cells24] at h2
    obtain ⟨a, ha, _, _⟩ := DataW.trod_int Try.underlying3 h0
    obtain ⟨s, hs, _, hz⟩ := DataW.trod_string Try.underlying9 h1
    obtain ⟨r1, r2, hr⟩ := open_rank h2
    simp at ha hs hr
    exact ⟨⟨a, s, r1, r2⟩, by rw [ha, hs, hr.1, hr.2], hz⟩)
  obtain ⟨l', rfl, hR⟩ := list_of hQ
  exact ⟨l', by simpa using hl, hR, ha⟩

theorem open_ranks (h : DataW.trod enc Try.prog W 0 sp held fuel 44 [.slice av len cap] = some x) : ∃ l : List (Int × Int), l.length = len ∧ Arr W Non av 2 (l.map (fun p => [.int .i64 p.1, .int .i64 p.2])) := by
  obtain ⟨l, hl, hQ, ha⟩ := open_arr Try.underlying44 cells24 (by decide) h (Q := fun c => ∃ p : Int × Int, c = [.int .i64 p.1, .int .i64 p.2] ∧ True) (fun n cs y hy => by
    obtain ⟨a, b, h⟩ := open_rank hy
    exact ⟨(a, b), h, trivial⟩)
  obtain ⟨l', rfl, hR⟩ := list_of hQ
  exact ⟨l', by simpa using hl, ha⟩
end

end Go.Proofs.Ytalnjkeajlbbpaa

/- A rank that comes in as an argument. -/
namespace Go.Proofs.Ytalnjkeajlbbpaa
open Go.ChangeShapes Go.WideShapes Go.ChangeAt Go.RowKit

set_option maxRecDepth 100000 in
theorem rank_arg {H : Type} {enc : TypeId × Value → H} {W : World} {sp : Nat → Bool} {held : Bool} {x : DataW H × List MemPlace} {r : Reach} {base : Nat} {v : Value} (hv : Value.okWide Try.prog W r base 24 v)
    (h : ∃ fuel, DataW.trod enc Try.prog W 0 sp held fuel 24 v.cells.toList = some x) : ∃ r1 r2 : Int, v = .agg #[.int .i64 r1, .int .i64 r2] := by
  obtain ⟨cs, rfl, _⟩ := okWide_struct Try.underlying24 hv
  obtain ⟨fuel, hf⟩ := h
  obtain ⟨a, b, hab⟩ := open_rank hf
  have e : cs.toList = [.int .i64 a, .int .i64 b] := hab
  exact ⟨a, b, by rw [show cs = #[.int .i64 a, .int .i64 b] from Array.toList_inj.1 e]⟩

end Go.Proofs.Ytalnjkeajlbbpaa

/- An int that comes in: its bounds. -/
namespace Go.Proofs.Ytalnjkeajlbbpaa
open Go.ChangeShapes Go.WideShapes Go.ChangeAt Go.RowKit

theorem wf_bounds {n : Int} (h : (Lit.int .i64 n).wf = true) : -9223372036854775808 ≤ n ∧ n ≤ 9223372036854775807 := by
  simp only [Lit.wf, Bool.and_eq_true, decide_eq_true_eq] at h
  exact h

end Go.Proofs.Ytalnjkeajlbbpaa

/- Calls of layer 5's scripts: in memory; cachewiselaw05.Few; as an argument. -/
namespace Go.Proofs.Ytalnjkeajlbbpaa
open Go.RowKit
set_option linter.unusedSimpArgs false
set_option linter.unusedVariables false

structure Act5 where
  kind : Int
  key : ByteArray
  n : Int

def act5C (l : List Act5) : List (List Value) := l.map (fun a => [.int .i64 a.kind, .string a.key, .int .i64 a.n])

theorem Arr.act5 {w : World} {F : Nat → Prop} {av : Option Addr} {l : List Act5} (h : Arr w F av 3 (act5C l)) {i : Nat} {a : Act5} (hs : l[i]? = some a) : ∃ g off, av = some ⟨g, off, none⟩ ∧
    w.cell? ⟨g, off + i * 3, none⟩ = some (.int .i64 a.kind) ∧ w.cell? ⟨g, off + i * 3 + 1, none⟩ = some (.string a.key) ∧ w.cell? ⟨g, off + i * 3 + 2, none⟩ = some (.int .i64 a.n) := by
  obtain ⟨g, off, he, _, _, hc⟩ := h (by intro e; simp [act5C] at e; subst e; simp at hs)
  have hi : (act5C l)[i]? = some [.int .i64 a.kind, .string a.key, .int .i64 a.n] := by simp [act5C, hs]
  exact ⟨g, off, he, hc i _ hi 0 _ rfl, hc i _ hi 1 _ rfl, hc i _ hi 2 _ rfl⟩

/-- Are the calls from i on few and short enough? -/
def fewB : Nat → List Act5 → Bool
  | _, [] => true
  | i, a :: l => decide (i < 200) && decide (a.key.size ≤ 200) && fewB (i + 1) l

theorem fewB_all : ∀ (i : Nat) (l : List Act5), fewB i l = true → (l = [] ∨ i + l.length ≤ 200) ∧ ∀ a ∈ l, a.key.size ≤ 200
  | _, [], _ => ⟨.inl rfl, by simp⟩
  | i, a :: l, h => by
    simp only [fewB, Bool.and_eq_true, decide_eq_true_eq] at h
    obtain ⟨⟨h1, h2⟩, h3⟩ := h
    obtain ⟨h4, h5⟩ := fewB_all (i + 1) l h3
    refine ⟨.inr ?_, fun b hb => ?_⟩
    · rcases h4 with rfl | h4
      · simp; omega
      · simp only [List.length_cons]; omega
    · rcases List.mem_cons.1 hb with rfl | hb
      · exact h2
      · exact h5 b hb

set_option maxRecDepth 100000 in
set_option maxHeartbeats 1600000 in
theorem few_any {w : World} {av : Option Addr} {cap : Nat} {l : List Act5} (hA : Arr w Non av 3 (act5C l)) (b : Bool) (hb : fewB 0 l = b) :
    Calls Try.prog 35 #[.slice av l.length cap] w fun e w' => e = .returned (.bool b) ∧ Upd Non w w' := by
  have HB := hid hb
  clear hb
  go_enter Try.func35, Try.ntmps35
  go_wp2_with fail
  go_loopg [3] l.length (fun k s3 wr => ∃ (i : Nat), i ≤ l.length ∧ l.length - i ≤ k ∧ s3 = .int .i64 i ∧ w = wr ∧ i ≤ 200 ∧ Hid (fewB 0 l = fewB i (l.drop i)))
  case atStart => exact ⟨0, Nat.zero_le _, Nat.sub_le _ _, rfl, rfl, by omega, hid rfl⟩
  case round =>
    obtain ⟨i, hi, hik, rfl, rfl, hi2, HF⟩ := hrel
    by_cases hlt : i < l.length
    · obtain ⟨a, ha⟩ : ∃ a, l[i]? = some a := ⟨l[i], List.getElem?_eq_getElem hlt⟩
      have hd : l.drop i = a :: l.drop (i + 1) := by rw [List.drop_eq_getElem_cons hlt]; congr 1; rw [List.getElem?_eq_getElem hlt] at ha; simpa using ha
      obtain ⟨g, off, hv, c0, c1, c2⟩ := hA.act5 ha
      subst hv
      have hF2 : fewB 0 l = (decide (i < 200) && decide (a.key.size ≤ 200) && fewB (i + 1) (l.drop (i + 1))) := by rw [HF.out, hd]; rfl
      have HF2 := hid hF2
      have hil : (i : Int) < (l.length : Int) := by omega
      clear ha hd hF2 HF
      generalize a.key = key at c1 HF2
      by_cases h1 : i < 200
      · have hg1 : decide ((200 : Int) ≤ (i : Int)) = false := by simp; omega
        by_cases h2 : key.size ≤ 200
        · have hg2 : decide ((200 : Int) < (key.size : Int)) = false := by simp; omega
          have HF3 : Hid (fewB 0 l = fewB (i + 1) (l.drop (i + 1))) := hid (by rw [HF2.out, decide_eq_true h1, decide_eq_true h2]; rfl)
          clear h1 h2
          go_wp2_with fail
          go_roundg (l.length - (i + 1))
          case measure => omega
          case rel => exact ⟨i + 1, by omega, Nat.le_refl _, by go_num, rfl, by simp at hg1; omega, HF3⟩
        · have hg2 : decide ((200 : Int) < (key.size : Int)) = true := by simp; omega
          have hf : fewB 0 l = false := by rw [HF2.out, decide_eq_true h1, decide_eq_false h2]; rfl
          obtain rfl : false = b := by rw [← HB.out, hf]
          clear h1 h2 hf HB HF2
          go_wp2_with fail
          go_ret
          exact ⟨rfl, Upd.refl _ _⟩
      · have hg1 : decide ((200 : Int) ≤ (i : Int)) = true := by simp; omega
        have hf : fewB 0 l = false := by rw [HF2.out, decide_eq_false h1]; rfl
        obtain rfl : false = b := by rw [← HB.out, hf]
        clear h1 hf HB HF2
        go_wp2_with fail
        go_ret
        exact ⟨rfl, Upd.refl _ _⟩
    · obtain rfl : i = l.length := by omega
      have hf : fewB 0 l = true := by rw [HF.out, List.drop_eq_nil_of_le (Nat.le_refl _)]; rfl
      obtain rfl : true = b := by rw [← HB.out, hf]
      clear hf HF HB
      go_wp2_with fail
      go_ret
      exact ⟨rfl, Upd.refl _ _⟩

theorem few_is {w : World} {av : Option Addr} {cap : Nat} {l : List Act5} (hA : Arr w Non av 3 (act5C l)) (hl : (l.length : Int) ≤ 9223372036854775807) (b : Bool) (hb : fewB 0 l = b) :
    Calls Try.prog 35 #[.slice av l.length cap] w fun e w' => e = .returned (.bool b) ∧ Upd Non w w' := few_any hA b hb

theorem cells71 : Try.prog.cellsOf 71 = 3 := by kernel_rfl

section
variable {H : Type} {enc : TypeId × Value → H} {W : World} {sp : Nat → Bool} {held : Bool} {fuel len cap : Nat} {av : Option Addr} {x : DataW H × List MemPlace}

theorem list3 {α : Type} {l : List α} (h : l.length = 3) : ∃ a b c, l = [a, b, c] := by
  match l, h with
  | [a, b, c], _ => exact ⟨a, b, c, rfl⟩

theorem open_acts5 (h : DataW.trod enc Try.prog W 0 sp held fuel 64 [.slice av len cap] = some x) : ∃ l : List Act5, l.length = len ∧ (∀ a ∈ l, a.key.size ≤ maxLen) ∧ Arr W Non av 3 (act5C l) := by
  obtain ⟨l, hl, hQ, ha⟩ := open_arr Try.underlying64 cells71 (by decide) h (Q := fun c => ∃ a : Act5, c = [.int .i64 a.kind, .string a.key, .int .i64 a.n] ∧ a.key.size ≤ maxLen) (fun n cs y hy => by
    obtain ⟨y0, y1, y2, m, _, hl, h0, h1, h2⟩ := Go.Deep.trod_struct3 Try.underlying71 hy
    rw [cells71] at hl
    obtain ⟨c0, c1, c2, rfl⟩ := list3 hl
    rw [cells3] at h0
    rw [cells9] at h1
    rw [cells3] at h2
    obtain ⟨a, ha, _, _⟩ := DataW.trod_int Try.underlying3 h0
    obtain ⟨s, hs, _, hz⟩ := DataW.trod_string Try.underlying9 h1
    obtain ⟨b, hb, _, _⟩ := DataW.trod_int Try.underlying3 h2
    simp at ha hs hb
    exact ⟨⟨a, s, b⟩, by rw [ha, hs, hb], hz⟩)
  obtain ⟨l', rfl, hR⟩ := list_of hQ
  exact ⟨l', by simpa using hl, hR, ha⟩
end

end Go.Proofs.Ytalnjkeajlbbpaa
