/- The plain law of swaps done alone: every run comes to an offer, taken back, and Late. -/
import Derived.Test.YtegjkheecbmioaaFnE
import Derived.Test.YtegjkheecbmioaaSym
namespace Go.Proofs.Ytegjkheecbmioaa
open Go.RowKit
set_option linter.unusedVariables false
set_option linter.unusedSimpArgs false

def conC (l : List Int) : List (Option Lin) := l.map (fun n => some (Lin.con n))
def swS (at0 : Int) (m : Nat) : SS := ⟨at0, [Lin.con 1, Lin.var 0, Lin.con 0, Lin.con 0] ++ List.replicate 12 (Lin.con 0), [], conC (lay0 5 0 false) ++ List.replicate (3 * m) none, [], [], []⟩
def swOk (c : List Ins) (l : List Lb) (m t : Nat) : Bool := match alS c t 0 500 (swS (findB l (nb (entB 19))) m) with
  | some (S', v) => decide (v = Lin.con 3) && decide (S'.notes = [(15, Lin.var 0), (16, Lin.con 0)]) && decide (S'.cs = []) && decide (S'.cells.length = 25 + 3 * m) && decide (S'.cells.take 22 = conC (lay0 5 0 false))
  | none => false
def swAll (ts : List ByteArray) : Bool := match asmB (flatL ts) with
  | some (c, l) => c.all mayB && decide (c.length ≤ 100000) && (List.range 40).all (fun m => (List.range 8).all (fun t => swOk c l m t))
  | none => false
set_option maxRecDepth 1000000 in
theorem sw_all : swAll textsSw = true := by decide +kernel
set_option maxRecDepth 1000000 in
theorem sw_sizes : (∀ t ∈ textsSw, t.size ≤ 100000) ∧ sizesB textsSw ≤ 60000 ∧ (flatL textsSw).length ≤ 100000 := by decide +kernel
end Go.Proofs.Ytegjkheecbmioaa
