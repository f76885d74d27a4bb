/- Calls of a Sema done alone: each call's step, as Plays asks for it. -/
import Derived.Test.YtegjkheecbmioaaSmP
import Derived.Test.YtegjkheecbmioaaExp
import Derived.Test.YtegjkheecbmioaaPlA
namespace Go.Proofs.Ytegjkheecbmioaa
open Go.RowKit
set_option linter.unusedVariables false
set_option linter.unusedSimpArgs false

theorem lay_val (kd : Int) (f : Bool) (l : Lin) (xs : List Int) : (layL kd f l).map (·.val xs) = lay0 kd (l.val xs) f := by
  cases f <;> simp [layL, lay0, Lin.val_con]
def cellInv (kd : Int) (f : Bool) (j : Nat) (x : Th) (s : St) : Prop := ∃ n : Int, 0 ≤ n ∧ n ≤ 1000 ∧ x = thNew kd n ∧ s.now = 0 ∧ s.thr = List.replicate 8 prk0 ∧ s.cells = lay0 kd n f
theorem cellInv_is {kd : Int} {f : Bool} {n v : Int} {s : St} (h1 : s.now = 0) (h2 : s.thr = List.replicate 8 prk0) (h3 : s.cells = lay0 kd n f) : StIs [n, v] (layL kd f lN) s :=
  ⟨h1, h2, by rw [lay_val, h3]; simp [lN, Lin.var, Lin.val, dot]⟩
theorem one_step {c : List Ins} {l : List Lb} (hmay : ∀ x ∈ c, mayB x = true) {kd : Int} {f : Bool} {r : Run} {t : Nat} (hr : runOk c l (layL kd f lN) r t = true) (ht : t < 8) {n v : Int} (hn0 : 0 ≤ n) (hn1 : n ≤ 1000) (hv0 : 0 ≤ v) (hv1 : v ≤ 1000) {s : St}
    (h1 : s.now = 0) (h2 : s.thr = List.replicate 8 prk0) (h3 : s.cells = lay0 kd n f) {k : Int} (hk : k = r.kind) (ha : askB k v = r.ask.val [n, v]) (hc : ∀ p ∈ r.cs, holdC [n, v] p) (nl : Lin) (hcl : r.cells = layL kd f nl) (n' : Int) (hn' : n' = nl.val [n, v]) (hb0 : 0 ≤ n') (hb1 : n' ≤ 1000) (j : Nat) :
    ∃ s', alG c t 500 [] (fr0 (findB l (nb (entB k))) [1, askB k v, 0, 0] 4) s [] = some (r.val.val [n, v], nval [n, v] r.notes, true, s') ∧ cellInv kd f j (thNew kd n') s' := by
  subst hk
  obtain ⟨s', hg, hs⟩ := run_sound hmay hr ht (xs := [n, v]) (by intro x hx; simp only [List.mem_cons, List.not_mem_nil, or_false] at hx; rcases hx with rfl | rfl <;> omega) ha (cellInv_is h1 h2 h3) hc
  refine ⟨s', hg, n', hb0, hb1, rfl, hs.now, hs.thr, ?_⟩
  rw [hs.cells, hcl, lay_val, hn']
theorem same_one {k a b : Int} (h : absV a = b) : SameN [(k, a)] [(k, b)] := by
  refine ⟨rfl, fun i p q hp hq => ?_⟩
  cases i with
  | zero => cases hp; cases hq; exact ⟨rfl, h⟩
  | succ i => cases hp
end Go.Proofs.Ytegjkheecbmioaa
