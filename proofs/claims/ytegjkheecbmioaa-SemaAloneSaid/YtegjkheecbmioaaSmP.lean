/- The plain runs of a Sema and of a Latch, checked by the kernel. -/
import Derived.Test.YtegjkheecbmioaaRun
namespace Go.Proofs.Ytegjkheecbmioaa
open Go.RowKit
set_option linter.unusedVariables false
set_option linter.unusedSimpArgs false

def layL (kd : Int) (f : Bool) (n : Lin) : List Lin := ((lay0 kd 0 f).map Lin.con).set 2 n
def lN : Lin := Lin.var 0
def lV : Lin := Lin.var 1
def lM : Lin := ⟨0, [0, -1]⟩
def lD : Lin := ⟨0, [1, -1]⟩
def lE : Lin := ⟨1000, [-1, -1]⟩
def smRuns (f : Bool) : List Run := [
  ⟨4, lM, [true], [(lD, 2)], [(17, Lin.con 0)], Lin.con 3, layL 2 f lN⟩,
  ⟨4, lM, [false], [(lD, 3)], [(1, lM)], Lin.con 0, layL 2 f lD⟩,
  ⟨5, lM, [true], [(lD, 2)], [(5, lM)], Lin.con 1, layL 2 f lN⟩,
  ⟨5, lM, [false], [(lD, 3)], [(1, lM)], Lin.con 0, layL 2 f lD⟩,
  ⟨6, lV, [true], [(lE, 2)], [(7, lV)], Lin.con 5, layL 2 f lN⟩,
  ⟨6, lV, [false], [(lE, 3)], [(3, lV)], Lin.con 0, layL 2 f ⟨0, [1, 1]⟩⟩,
  ⟨7, Lin.con 0, [true], [(lN, 0)], [(9, Lin.con 0)], Lin.con 0, layL 2 f lN⟩,
  ⟨7, Lin.con 0, [false], [(lN, 1)], [(9, lN)], ⟨0, [16]⟩, layL 2 f (Lin.con 0)⟩]
def ltRuns : List Run := [
  ⟨8, Lin.con 0, [true], [(lN, 0)], [(1, Lin.con 0)], Lin.con 0, layL 3 false lN⟩,
  ⟨8, Lin.con 0, [false], [(lN, 1)], [(17, Lin.con 0)], Lin.con 3, layL 3 false lN⟩,
  ⟨9, Lin.con 0, [true], [(lN, 0)], [(8, Lin.con 0)], Lin.con 0, layL 3 false lN⟩,
  ⟨9, Lin.con 0, [false, true], [(lN, 1), (⟨-1, [1]⟩, 0)], [(8, Lin.con 1)], Lin.con 0, layL 3 false ⟨-1, [1]⟩⟩,
  ⟨9, Lin.con 0, [false, false], [(lN, 1), (⟨-1, [1]⟩, 1)], [(8, Lin.con 1)], Lin.con 0, layL 3 false ⟨-1, [1]⟩⟩]
def smAll (ts : List ByteArray) : Bool := match asmB (flatL ts) with
  | some (c, l) => c.all mayB && decide (c.length ≤ 100000) && [false, true].all (fun f => (smRuns f).all (fun r => (List.range 8).all (fun t => runOk c l (layL 2 f lN) r t)))
  | none => false
def ltAll (ts : List ByteArray) : Bool := match asmB (flatL ts) with
  | some (c, l) => c.all mayB && decide (c.length ≤ 100000) && ltRuns.all (fun r => (List.range 8).all (fun t => runOk c l (layL 3 false lN) r t))
  | none => false
set_option maxRecDepth 1000000 in
theorem lt_all : ltAll textsLt = true := by decide +kernel
set_option maxRecDepth 1000000 in
theorem sm_all : smAll textsSm = true := by decide +kernel
set_option maxRecDepth 1000000 in
theorem lt_sizes : (∀ t ∈ textsLt, t.size ≤ 100000) ∧ sizesB textsLt ≤ 60000 ∧ (flatL textsLt).length ≤ 100000 := by decide +kernel
set_option maxRecDepth 1000000 in
theorem sm_sizes : (∀ t ∈ textsSm, t.size ≤ 100000) ∧ sizesB textsSm ≤ 60000 ∧ (flatL textsSm).length ≤ 100000 := by decide +kernel
end Go.Proofs.Ytegjkheecbmioaa
