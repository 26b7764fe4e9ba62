/- A rank that comes in as an argument. -/
import Derived.Test.YtalnjkeajlbbpaaOpen
namespace Go.Proofs.Ytalnjkeajlbbpaa
open Go.ChangeShapes Go.WideShapes Go.ChangeAt Go.RowKit

set_option maxRecDepth 100000 in
theorem rank_arg {H : Type} {enc : TypeId × Value → H} {W : World} {sp : Nat → Bool} {held : Bool} {x : DataW H × List MemPlace} {r : Reach} {base : Nat} {v : Value} (hv : Value.okWide Try.prog W r base 24 v)
    (h : ∃ fuel, DataW.trod enc Try.prog W 0 sp held fuel 24 v.cells.toList = some x) : ∃ r1 r2 : Int, v = .agg #[.int .i64 r1, .int .i64 r2] := by
  obtain ⟨cs, rfl, _⟩ := okWide_struct Try.underlying24 hv
  obtain ⟨fuel, hf⟩ := h
  obtain ⟨a, b, hab⟩ := open_rank hf
  have e : cs.toList = [.int .i64 a, .int .i64 b] := hab
  exact ⟨a, b, by rw [show cs = #[.int .i64 a, .int .i64 b] from Array.toList_inj.1 e]⟩

end Go.Proofs.Ytalnjkeajlbbpaa
