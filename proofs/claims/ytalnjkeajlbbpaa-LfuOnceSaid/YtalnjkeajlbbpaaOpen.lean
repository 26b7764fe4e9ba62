/- Arguments opened: slices of strings, of ranks, of calls; as 'Arr'. -/
import Derived.Test.YtalnjkeajlbbpaaArr
import Derived.ProofKit
import Derived.OpenShut
import Derived.ShutString
import Derived.ChangeOld
import Derived.Lib.SmallJoins
import Derived.Deep.Slices
import Derived.Deep.Strs
namespace Go.Proofs.Ytalnjkeajlbbpaa
open Go.ChangeShapes Go.WideShapes Go.ChangeAt Go.RowKit
open Go.ChangeMaps (open_string shut_string)

theorem own : ownKnob Try.prog.godebug = none := by kernel_rfl
theorem laidOut : laidOutB Try.prog = true := by kernel_rfl

theorem list_of {α : Type} {f : α → List Value} {R : α → Prop} : ∀ {l : List (List Value)}, (∀ c ∈ l, ∃ a, c = f a ∧ R a) → ∃ l' : List α, l = l'.map f ∧ ∀ a ∈ l', R a
  | [], _ => ⟨[], rfl, by simp⟩
  | c :: l, h => by
    obtain ⟨a, ha, hR⟩ := h c (by simp)
    obtain ⟨l', hl, hR'⟩ := list_of (l := l) (fun c hc => h c (by simp [hc]))
    exact ⟨a :: l', by rw [hl, ha]; rfl, fun b hb => by
      rcases List.mem_cons.1 hb with rfl | hb
      · exact hR
      · exact hR' b hb⟩

/-- A slice that came in, of whatever elements. -/
theorem open_arr {H : Type} {enc : TypeId × Value → H} {P : Program} {W : World} {sp : Nat → Bool} {held : Bool} {t e k fuel len cap : Nat} {av : Option Addr} {x : DataW H × List MemPlace} (ht : P.underlying t = some (.slice e)) (hk : P.cellsOf e = k) (hk0 : 0 < k)
    (h : DataW.trod enc P W 0 sp held fuel t [.slice av len cap] = some x) {Q : List Value → Prop} (hQ : ∀ n cs y, DataW.trod enc P W 0 sp held n e cs = some y → Q cs) :
    ∃ l : List (List Value), l.length = len ∧ (∀ c ∈ l, Q c) ∧ Arr W Non av k l := by
  rcases Go.Deep.open_slice ht h with ⟨hc, _⟩ | ⟨a, len', cap', m, n, D, Pl, hc, _, hl, hm, hmm, _, hx⟩
  · simp only [List.cons.injEq, Value.slice.injEq, and_true] at hc
    obtain ⟨rfl, rfl, rfl⟩ := hc
    exact ⟨[], rfl, by simp, fun h => absurd rfl h⟩
  · simp only [List.cons.injEq, Value.slice.injEq, and_true] at hc
    obtain ⟨rfl, rfl, rfl⟩ := hc
    rw [hk] at hx
    have hlm : len ≤ m := by rw [hmm]; split <;> omega
    obtain ⟨C, hC⟩ := Go.Deep.choose_lt (α := List Value) (p := fun i c => W.cells? 0 (a.add (i * k)) k = some c ∧ Q c) (n := len) (fun i hi => by
      obtain ⟨cs, h1, h2⟩ := hx i (by omega)
      exact ⟨cs, h1, hQ _ _ _ h2⟩)
    refine ⟨(List.range len).map C, by simp, ?_, fun hne => ?_⟩
    · intro c hc
      obtain ⟨i, hi, rfl⟩ := List.mem_map.1 hc
      exact (hC i (List.mem_range.1 hi)).2
    · have h0 : 0 < len := by
        rcases Nat.eq_zero_or_pos len with h | h
        · subst h; simp at hne
        · exact h
      have hcell : ∀ i, i < len → ∀ (j : Nat) (v : Value), (C i)[j]? = some v → W.cell? (a.add (i * k + j)) = some v := by
        intro i hi j v hj
        obtain ⟨_, hlen, hg⟩ := World.cells?_some (hC i hi).1
        have hjk : j < k := by rw [← hlen]; exact (List.getElem?_eq_some_iff.1 hj).1
        have := hg j hjk
        rw [hj, Go.Deep.add_add] at this
        exact this
      obtain ⟨_, hlen0, _⟩ := World.cells?_some (hC 0 h0).1
      have hc0 := hcell 0 h0 0 ((C 0)[0]'(by omega)) (List.getElem?_eq_getElem _)
      have hs := World.cell?_spot hc0
      obtain ⟨b, off, spot⟩ := a
      have hspot : spot = none := by simpa [Addr.add] using hs
      subst hspot
      have hb : b < W.heap.size := by
        have := World.block_lt_of_cell? W _ hc0
        simpa [Addr.add] using this
      refine ⟨b, off, rfl, hb, id, fun i c hi j v hj => ?_⟩
      simp only [List.getElem?_map] at hi
      have hil : i < len := by
        rcases Nat.lt_or_ge i len with h | h
        · exact h
        · rw [List.getElem?_eq_none (by simpa using h)] at hi; simp at hi
      rw [List.getElem?_eq_getElem (by simpa using hil)] at hi
      simp only [List.getElem_range, Option.map_some, Option.some.injEq] at hi
      subst hi
      have := hcell i hil j v hj
      rw [Addr.add_lit] at this
      rw [Nat.add_assoc]
      exact this

theorem cells9 : Try.prog.cellsOf 9 = 1 := by kernel_rfl
theorem cells3 : Try.prog.cellsOf 3 = 1 := by kernel_rfl

section
variable {H : Type} {enc : TypeId × Value → H} {W : World} {sp : Nat → Bool} {held : Bool} {fuel len cap : Nat} {av : Option Addr} {x : DataW H × List MemPlace}

theorem open_strs (h : DataW.trod enc Try.prog W 0 sp held fuel 33 [.slice av len cap] = some x) : ∃ l : List ByteArray, l.length = len ∧ (∀ s ∈ l, s.size ≤ maxLen) ∧ Arr W Non av 1 (strC l) := by
  obtain ⟨l, hl, hQ, ha⟩ := open_arr Try.underlying33 cells9 (by decide) h (Q := fun c => ∃ s : ByteArray, c = [.string s] ∧ s.size ≤ maxLen) (fun n cs y hy => by
    obtain ⟨s, hs, _, hz⟩ := DataW.trod_string Try.underlying9 hy
    exact ⟨s, hs, hz⟩)
  obtain ⟨l', rfl, hR⟩ := list_of hQ
  exact ⟨l', by simpa using hl, hR, ha⟩
theorem cells31 : Try.prog.cellsOf 31 = 4 := by kernel_rfl
theorem cells24 : Try.prog.cellsOf 24 = 2 := by kernel_rfl

theorem list4 {α : Type} {l : List α} (h : l.length = 4) : ∃ a b c d, l = [a, b, c, d] := by
  match l, h with
  | [a, b, c, d], _ => exact ⟨a, b, c, d, rfl⟩
theorem list2 {α : Type} {l : List α} (h : l.length = 2) : ∃ a b, l = [a, b] := by
  match l, h with
  | [a, b], _ => exact ⟨a, b, rfl⟩

theorem open_rank {n : Nat} {cs : List Value} {y : DataW H × List MemPlace} (h : DataW.trod enc Try.prog W 0 sp held n 24 cs = some y) : ∃ a b : Int, cs = [.int .i64 a, .int .i64 b] := by
  obtain ⟨y0, y1, m, _, hl, h0, h1⟩ := trod_struct2 Try.underlying24 h
  rw [cells24] at hl
  obtain ⟨c0, c1, rfl⟩ := list2 hl
  rw [cells3] at h0 h1
  obtain ⟨a, ha, _, _⟩ := DataW.trod_int Try.underlying3 h0
  obtain ⟨b, hb, _, _⟩ := DataW.trod_int Try.underlying3 h1
  simp at ha hb
  exact ⟨a, b, by rw [ha, hb]⟩

theorem open_acts4 (h : DataW.trod enc Try.prog W 0 sp held fuel 22 [.slice av len cap] = some x) : ∃ l : List Act4, l.length = len ∧ (∀ a ∈ l, a.key.size ≤ maxLen) ∧ Arr W Non av 4 (act4C l) := by
  obtain ⟨l, hl, hQ, ha⟩ := open_arr Try.underlying22 cells31 (by decide) h (Q := fun c => ∃ a : Act4, c = [.int .i64 a.kind, .string a.key, .int .i64 a.one, .int .i64 a.two] ∧ a.key.size ≤ maxLen) (fun n cs y hy => by
    obtain ⟨y0, y1, y2, m, _, hl, h0, h1, h2⟩ := Go.Deep.trod_struct3 Try.underlying31 hy
    rw [cells31] at hl
    obtain ⟨c0, c1, c2, c3, rfl⟩ := list4 hl
    rw [cells3] at h0
    rw [cells9] at h1
    rw [cells24] at h2
    obtain ⟨a, ha, _, _⟩ := DataW.trod_int Try.underlying3 h0
    obtain ⟨s, hs, _, hz⟩ := DataW.trod_string Try.underlying9 h1
    obtain ⟨r1, r2, hr⟩ := open_rank h2
    simp at ha hs hr
    exact ⟨⟨a, s, r1, r2⟩, by rw [ha, hs, hr.1, hr.2], hz⟩)
  obtain ⟨l', rfl, hR⟩ := list_of hQ
  exact ⟨l', by simpa using hl, hR, ha⟩

theorem open_ranks (h : DataW.trod enc Try.prog W 0 sp held fuel 44 [.slice av len cap] = some x) : ∃ l : List (Int × Int), l.length = len ∧ Arr W Non av 2 (l.map (fun p => [.int .i64 p.1, .int .i64 p.2])) := by
  obtain ⟨l, hl, hQ, ha⟩ := open_arr Try.underlying44 cells24 (by decide) h (Q := fun c => ∃ p : Int × Int, c = [.int .i64 p.1, .int .i64 p.2] ∧ True) (fun n cs y hy => by
    obtain ⟨a, b, h⟩ := open_rank hy
    exact ⟨(a, b), h, trivial⟩)
  obtain ⟨l', rfl, hR⟩ := list_of hQ
  exact ⟨l', by simpa using hl, ha⟩
end

end Go.Proofs.Ytalnjkeajlbbpaa
