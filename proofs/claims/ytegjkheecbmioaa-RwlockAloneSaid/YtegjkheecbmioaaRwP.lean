/- The plain runs of a RW, checked by the kernel. Numbers: how often each of eight reads, how often it is held, the owner and 1, the state. -/
import Derived.Test.YtegjkheecbmioaaRun
namespace Go.Proofs.Ytegjkheecbmioaa
open Go.RowKit
set_option linter.unusedVariables false
set_option linter.unusedSimpArgs false

def rwSum : Lin := ⟨0, [1, 1, 1, 1, 1, 1, 1, 1]⟩
def rwNeg (t : Nat) : Lin := ⟨-1, (List.range 8).map (fun i => if i = t then -1 else 0)⟩
def addC (l : Lin) (c : Int) : Lin := ⟨l.c + c, l.ks⟩
/-- The cells, by who writes: 0 nobody, 1 the thread, 2 another one. -/
def rwLay (f : Bool) (cls t : Nat) : List Lin :=
  let l := (List.range 8).foldl (fun l i => l.set (6 + i) (Lin.var i)) ((lay0 4 0 f).map Lin.con)
  if cls = 0 then l.set 2 rwSum
  else if cls = 1 then ((l.set 2 (rwNeg t)).set 3 (Lin.con (t + 1))).set 14 (Lin.var 8)
  else ((l.set 2 (Lin.var 10)).set 3 (Lin.var 9)).set 14 (Lin.var 8)
def rwRuns (f : Bool) (t : Nat) : List (Nat × Run) :=
  let r := Lin.var t
  let q := addC (Lin.var 9) (-(t + 1))
  let h := Lin.var 8
  let L0 := rwLay f 0 t
  let L1 := rwLay f 1 t
  let L2 := rwLay f 2 t
  let R0 := (L0.set 2 (addC rwSum 1)).set (6 + t) (addC r 1)
  let U0 := (L0.set 2 (addC rwSum (-1))).set (6 + t) (addC r (-1))
  let W0 := ((L0.set 2 (Lin.con (-1))).set 3 (Lin.con (t + 1))).set 14 (Lin.con 1)
  let R1 := (L1.set 2 (addC (rwNeg t) (-1))).set (6 + t) (addC r 1)
  let U1 := (L1.set 2 (addC (rwNeg t) 1)).set (6 + t) (addC r (-1))
  let W1 := L1.set 14 (addC h 1)
  let F1 := L1.set 14 (addC h (-1))
  let F0 := ((L1.set 2 r).set 3 (Lin.con 0)).set 14 (Lin.con 0)
  (if f then [
    (0, ⟨10, Lin.con 0, [false, false, false], [(r, 1), (rwSum, 3), (addC rwSum (-1000), 1)], [(2, Lin.con 0)], Lin.con 0, R0⟩),
    (0, ⟨10, Lin.con 0, [true, false, false], [(r, 0), (rwSum, 3), (addC rwSum (-1000), 1)], [(2, Lin.con 0)], Lin.con 0, R0⟩),
    (1, ⟨10, Lin.con 0, [false, false], [(r, 1), (addC (rwNeg t) 1001, 1)], [(2, Lin.con 0)], Lin.con 0, R1⟩),
    (1, ⟨10, Lin.con 0, [true, false], [(r, 0), (addC (rwNeg t) 1001, 1)], [(2, Lin.con 0)], Lin.con 0, R1⟩),
    (2, ⟨10, Lin.con 0, [true, false, false, true], [(r, 0), (q, 1), (q, 1), (Lin.var 10, 2)], [(17, Lin.con 0)], Lin.con 3, L2⟩)]
  else [
    (0, ⟨10, Lin.con 0, [false, false], [(rwSum, 3), (addC rwSum (-1000), 1)], [(2, Lin.con 0)], Lin.con 0, R0⟩),
    (0, ⟨10, Lin.con 0, [false, false], [(rwSum, 3), (addC rwSum (-1000), 1)], [(2, Lin.con 0)], Lin.con 0, R0⟩),
    (1, ⟨10, Lin.con 0, [false], [(addC (rwNeg t) 1001, 1)], [(2, Lin.con 0)], Lin.con 0, R1⟩),
    (1, ⟨10, Lin.con 0, [false], [(addC (rwNeg t) 1001, 1)], [(2, Lin.con 0)], Lin.con 0, R1⟩),
    (2, ⟨10, Lin.con 0, [false, true], [(q, 1), (Lin.var 10, 2)], [(17, Lin.con 0)], Lin.con 3, L2⟩)]) ++ [
    (0, ⟨11, Lin.con 0, [false, false], [(rwSum, 3), (addC rwSum (-1000), 1)], [(2, Lin.con 0)], Lin.con 0, R0⟩),
    (1, ⟨11, Lin.con 0, [false], [(addC (rwNeg t) 1001, 1)], [(2, Lin.con 0)], Lin.con 0, R1⟩),
    (2, ⟨11, Lin.con 0, [false, true], [(q, 1), (Lin.var 10, 2)], [(5, Lin.con 1)], Lin.con 1, L2⟩),
    (0, ⟨12, Lin.con 0, [true], [(r, 0)], [(6, Lin.con 1)], Lin.con 4, L0⟩),
    (0, ⟨12, Lin.con 0, [false, false, false], [(r, 1), (rwSum, 3), (addC rwSum (-1), 1)], [(4, Lin.con 0)], Lin.con 0, U0⟩),
    (0, ⟨12, Lin.con 0, [false, false, true], [(r, 1), (rwSum, 3), (addC rwSum (-1), 0)], [(4, Lin.con 0)], Lin.con 0, U0⟩),
    (1, ⟨12, Lin.con 0, [true], [(r, 0)], [(6, Lin.con 1)], Lin.con 4, L1⟩),
    (1, ⟨12, Lin.con 0, [false, true], [(r, 1), (rwNeg t, 2)], [(4, Lin.con 0)], Lin.con 0, U1⟩),
    (2, ⟨12, Lin.con 0, [true], [(r, 0)], [(6, Lin.con 1)], Lin.con 4, L2⟩),
    (0, ⟨13, Lin.con 0, [false], [(rwSum, 1)], [(17, Lin.con 0)], Lin.con 3, L0⟩),
    (0, ⟨13, Lin.con 0, [true, true], [(rwSum, 0), (rwSum, 0)], [(1, Lin.con 1)], Lin.con 0, W0⟩),
    (1, ⟨13, Lin.con 0, [false], [(addC h (-1000), 1)], [(1, Lin.con 1)], Lin.con 0, W1⟩),
    (2, ⟨13, Lin.con 0, [false, false], [(q, 1), (Lin.var 10, 1)], [(17, Lin.con 0)], Lin.con 3, L2⟩),
    (0, ⟨14, Lin.con 0, [false], [(rwSum, 1)], [(5, Lin.con 0)], Lin.con 1, L0⟩),
    (0, ⟨14, Lin.con 0, [true, true], [(rwSum, 0), (rwSum, 0)], [(1, Lin.con 1)], Lin.con 0, W0⟩),
    (1, ⟨14, Lin.con 0, [false], [(addC h (-1000), 1)], [(1, Lin.con 1)], Lin.con 0, W1⟩),
    (2, ⟨14, Lin.con 0, [false, false], [(q, 1), (Lin.var 10, 1)], [(5, Lin.con 0)], Lin.con 1, L2⟩),
    (0, ⟨15, Lin.con 0, [], [], [(6, Lin.con 0)], Lin.con 4, L0⟩),
    (1, ⟨15, Lin.con 0, [false], [(addC h (-1), 1)], [(3, Lin.con 0)], Lin.con 0, F1⟩),
    (1, ⟨15, Lin.con 0, [true], [(addC h (-1), 0)], [(3, Lin.con 0)], Lin.con 0, F0⟩),
    (2, ⟨15, Lin.con 0, [false], [(q, 1)], [(6, Lin.con 0)], Lin.con 4, L2⟩)]
def rwAll (ts : List ByteArray) : Bool := match asmB (flatL ts) with
  | some (c, l) => c.all mayB && decide (c.length ≤ 100000) && [false, true].all (fun f => (List.range 8).all (fun t => (rwRuns f t).all (fun p => runOk c l (rwLay f p.1 t) p.2 t)))
  | none => false
set_option maxRecDepth 1000000 in
theorem rw_all : rwAll textsRw = true := by decide +kernel
set_option maxRecDepth 1000000 in
theorem rw_sizes : (∀ t ∈ textsRw, t.size ≤ 100000) ∧ sizesB textsRw ≤ 60000 ∧ (flatL textsRw).length ≤ 100000 := by decide +kernel
theorem rw_code : ∃ c l, asmB (flatL textsRw) = some (c, l) ∧ (∀ x ∈ c, mayB x = true) ∧ c.length ≤ 100000 ∧ ∀ f t p, p ∈ rwRuns f t → t < 8 → runOk c l (rwLay f p.1 t) p.2 t = true := by
  have h := rw_all
  unfold rwAll at h
  split at h
  · rename_i c l hcl
    simp only [Bool.and_eq_true, decide_eq_true_eq, List.all_eq_true, List.mem_range] at h
    exact ⟨c, l, hcl, h.1.1, h.1.2, fun f t p hp ht => h.2 f (by cases f <;> simp) t ht p hp⟩
  · cases h
end Go.Proofs.Ytegjkheecbmioaa
