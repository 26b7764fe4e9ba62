/- An int that comes in: its bounds. -/
import Derived.Test.YtalnjkeajlbbpaaOpenR
namespace Go.Proofs.Ytalnjkeajlbbpaa
open Go.ChangeShapes Go.WideShapes Go.ChangeAt Go.RowKit

theorem wf_bounds {n : Int} (h : (Lit.int .i64 n).wf = true) : -9223372036854775808 ≤ n ∧ n ≤ 9223372036854775807 := by
  simp only [Lit.wf, Bool.and_eq_true, decide_eq_true_eq] at h
  exact h

end Go.Proofs.Ytalnjkeajlbbpaa
