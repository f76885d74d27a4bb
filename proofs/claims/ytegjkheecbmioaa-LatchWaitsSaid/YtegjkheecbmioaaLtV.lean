/- Threads that wait for latches: the plain runs. -/
import Derived.Test.YtegjkheecbmioaaPk
import Derived.Test.YtegjkheecbmioaaSmP
namespace Go.Proofs.Ytegjkheecbmioaa
open Go.RowKit
set_option linter.unusedVariables false
set_option linter.unusedSimpArgs false

def pcD : PC := ⟨1, 9, 0, 0, 0, false⟩
def pkLt (c : List Ins) (l : List Lb) (m k : Nat) : Option (List (Int × Int) × Int × Bool) := pkG c l (List.replicate k pcD) 500 0 [] (fr0 (findB l (nb (entB 8))) [1, askB 8 0, -1] 3) ⟨lay0 3 m false, List.replicate 2 prk0, 0⟩ []
def ltW (c : List Ins) (l : List Lb) (m : Nat) : Bool := decide (pkLt c l m m = some ([(1, 0)], 0, true)) && (match pkLt c l m (m - 1) with
  | some r => !r.2.2
  | none => false)
def ltWAll (ts : List ByteArray) : Bool := match asmB (flatL ts) with
  | some (c, l) => decide (c.length ≤ 100000) && (List.range 8).all (fun i => ltW c l (i + 1))
  | none => false
set_option maxRecDepth 1000000 in
theorem ltW_all : ltWAll textsLt = true := by decide +kernel
theorem ltW_code : ∃ c l, asmB (flatL textsLt) = some (c, l) ∧ c.length ≤ 100000 ∧ ∀ m, 1 ≤ m → m ≤ 8 → pkLt c l m m = some ([(1, 0)], 0, true) ∧ ∃ ns v, pkLt c l m (m - 1) = some (ns, v, false) := by
  have h := ltW_all
  unfold ltWAll at h
  split at h
  · rename_i c l hcl
    simp only [Bool.and_eq_true, decide_eq_true_eq, List.all_eq_true, List.mem_range] at h
    refine ⟨c, l, hcl, h.1, fun m h1 h8 => ?_⟩
    have := h.2 (m - 1) (by omega)
    rw [show m - 1 + 1 = m by omega] at this
    unfold ltW at this
    simp only [Bool.and_eq_true, decide_eq_true_eq] at this
    refine ⟨this.1, ?_⟩
    have h2 := this.2
    split at h2
    · rename_i r hr
      obtain ⟨ns, v, b⟩ := r
      have : b = false := by simpa using h2
      subst this
      exact ⟨ns, v, hr⟩
    · cases h2
  · cases h
end Go.Proofs.Ytegjkheecbmioaa
