/- The plain functions of layer 5 (prog) and of its reference, and what is to be known of them. -/
import Derived.Test.YtikfkkinhipfjaaBase
namespace Go.Proofs.Ytikfkkinhipfjaa
set_option linter.unusedVariables false
set_option linter.unusedSimpArgs false

def ofI (k : Int) : Int := if k = 1 ∨ k = 2 ∨ k = 3 ∨ k = 16 ∨ k = 17 ∨ k = 18 then 1 else if k = 4 ∨ k = 5 ∨ k = 6 ∨ k = 7 then 2 else if k = 8 ∨ k = 9 then 3 else
  if k = 10 ∨ k = 11 ∨ k = 12 ∨ k = 13 ∨ k = 14 ∨ k = 15 then 4 else if k = 19 then 5 else 0
def waitsB (k : Int) : Bool := decide (k = 1 ∨ k = 4 ∨ k = 8 ∨ k = 10 ∨ k = 13 ∨ k = 16 ∨ k = 19)
def cntB (n : Int) : Bool := decide (0 ≤ n ∧ n ≤ 1000)
def objB (o : Ob) : Bool := decide (1 ≤ o.kind ∧ o.kind ≤ 5 ∧ 0 ≤ o.n ∧ o.n ≤ 1000 ∧ (o.kind = 2 ∨ o.kind = 3 ∨ o.n = 0) ∧ (o.kind = 1 ∨ o.kind = 2 ∨ o.kind = 4 ∨ o.fair = false))
def callB (o : Cl) (m : Int) : Bool := decide (ofI o.kind ≠ 0 ∧ 0 ≤ o.obj ∧ o.obj < m ∧ 0 ≤ o.n ∧ o.n ≤ 1000 ∧
  (if o.kind = 4 ∨ o.kind = 5 ∨ o.kind = 6 then o.n ≠ 0 else if o.kind = 19 then True else o.n = 0) ∧
  (if waitsB o.kind = true then -1 ≤ o.wait ∧ o.wait ≤ 1099511627776 else o.wait = 0 ∧ o.breaks = false))
def pickB (p : Pk) : Bool := decide (if p.kind = 2 then 0 ≤ p.n ∧ p.n ≤ 1099511627776 else (p.kind = 1 ∨ p.kind = 3 ∨ p.kind = 4) ∧ 0 ≤ p.n ∧ p.n ≤ 8)
def largeB (s : Scr) : Bool := s.progs.any (fun l => decide (16 < (l.length : Int))) || decide (6 < (s.objs.length : Int)) || decide (8 < (s.progs.length : Int)) || decide (4000 < (s.picks.length : Int))
def checkE (s : Scr) : Option Int :=
  if largeB s = true then some 8
  else if (s.objs.length : Int) = 0 ∨ (s.progs.length : Int) = 0 then some 1
  else if s.objs.all objB = false then some 1
  else if s.progs.all (fun l => l.all (fun o => callB o s.objs.length)) = false then some 1
  else if s.picks.all pickB = false then some 1
  else none
def fewB (s : Scr) : Bool := decide (s.objs.length ≤ 100 ∧ s.progs.length ≤ 100 ∧ s.picks.length ≤ 8000) && s.progs.all (fun l => decide (l.length ≤ 100))
end Go.Proofs.Ytikfkkinhipfjaa
