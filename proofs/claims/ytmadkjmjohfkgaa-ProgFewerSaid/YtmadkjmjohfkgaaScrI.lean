/- ProgFewer's walk, for a script that is handed in. -/
import Derived.Test.YtmadkjmjohfkgaaScrH
import Derived.Test.YtmadkjmjohfkgaaOpen
namespace Go.Proofs.Ytmadkjmjohfkgaa
open Go.RowKit
set_option linter.unusedVariables false
theorem fewer_row (v : Value) (n m : Int) (w : World) (h : IsScr w v) (h1 : (Lit.int .i64 n).wf = true) (h2 : (Lit.int .i64 m).wf = true) :
    Calls Try.prog 4 #[v, .int .i64 n, .int .i64 m] w fun e w' => e = .returned (.bool true) ∧ Below w.heap.size w w' := by
  obtain ⟨s, A0, A1, A2, c0, c1, c2, rfl, h⟩ := h
  exact fewer_calls s A0 A1 A2 c0 c1 c2 n m w h h1 h2
end Go.Proofs.Ytmadkjmjohfkgaa
