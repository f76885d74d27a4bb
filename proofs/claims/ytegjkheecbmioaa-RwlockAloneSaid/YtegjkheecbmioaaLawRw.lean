/- The law of RWs done alone: what a run leaves behind, each call's step as Plays asks for it, the law walked. -/
import Derived.Test.YtegjkheecbmioaaRwP
import Derived.Test.YtegjkheecbmioaaRwE
import Derived.Test.YtegjkheecbmioaaPlA
import Derived.Test.YtegjkheecbmioaaRwB
import Derived.Test.YtegjkheecbmioaaRwC
import Derived.Test.YtegjkheecbmioaaRwD
import Derived.Test.YtegjkheecbmioaaEx2
import Derived.Test.YtegjkheecbmioaaOpA
import Derived.Test.YtegjkheecbmioaaMuf
namespace Go.Proofs.Ytegjkheecbmioaa
open Go.RowKit
set_option linter.unusedVariables false
set_option linter.unusedSimpArgs false

def rwXs (x : Th) (sv : Int) : List Int := [x.r0, x.r1, x.r2, x.r3, x.r4, x.r5, x.r6, x.r7, x.holds, x.owner + 1, sv]
def rwCells (f : Bool) (x : Th) (sv : Int) : List Int := [17, 17, sv, x.owner + 1, 4, if f then 1 else 0, x.r0, x.r1, x.r2, x.r3, x.r4, x.r5, x.r6, x.r7, x.holds, 0, 0, 0, 0, 0, 0, 0]
/-- Who writes, who reads, and the state that says so. -/
def rwSt (x : Th) (sv : Int) : Prop := (x.owner = -1 ∧ x.holds = 0 ∧ sv = sum8 x) ∨ ∃ o : Nat, o < 8 ∧ x.owner = o ∧ 1 ≤ x.holds ∧ (∀ i, i < 8 → i ≠ o → x.rl.getD i 0 = 0) ∧ sv = -1 - x.rl.getD o 0
structure RwOk (x : Th) (m : Int) : Prop where
  kd : x.kind = 4
  n : x.n = 0
  nn : ∀ r ∈ x.rl, 0 ≤ r
  hn : 0 ≤ x.holds
  sm : sum8 x + x.holds ≤ m
def rwInv (f : Bool) (j : Nat) (x : Th) (s : St) : Prop := RwOk x j ∧ s.now = 0 ∧ s.thr = List.replicate 8 prk0 ∧ ∃ sv, rwSt x sv ∧ s.cells = rwCells f x sv
theorem RwOk.all {x : Th} {m : Int} (h : RwOk x m) : 0 ≤ x.r0 ∧ 0 ≤ x.r1 ∧ 0 ≤ x.r2 ∧ 0 ≤ x.r3 ∧ 0 ≤ x.r4 ∧ 0 ≤ x.r5 ∧ 0 ≤ x.r6 ∧ 0 ≤ x.r7 := by
  have := h.nn
  simp only [Th.rl, List.mem_cons, List.not_mem_nil, or_false, forall_eq_or_imp, forall_eq] at this
  exact this
theorem RwOk.bd {x : Th} {m : Int} (h : RwOk x m) (hm : m ≤ 40) : ∀ r ∈ x.rl, 0 ≤ r ∧ r ≤ 1000 := by
  have h0 := h.all
  have hs := h.sm
  have hh := h.hn
  rw [sum8_eq] at hs
  simp only [Th.rl, List.mem_cons, List.not_mem_nil, or_false, forall_eq_or_imp, forall_eq]
  omega
theorem RwOk.sn {x : Th} {m : Int} (h : RwOk x m) : 0 ≤ sum8 x := by
  have h0 := h.all
  rw [sum8_eq]
  omega
theorem RwOk.one {x : Th} {m : Int} (h : RwOk x m) {t : Nat} (ht : t < 8) : 0 ≤ x.rl.getD t 0 ∧ x.rl.getD t 0 ≤ sum8 x := by
  have h0 := h.all
  rw [sum8_eq]
  match t, ht with
  | 0, _ => show 0 ≤ x.r0 ∧ x.r0 ≤ _; omega
  | 1, _ => show 0 ≤ x.r1 ∧ x.r1 ≤ _; omega
  | 2, _ => show 0 ≤ x.r2 ∧ x.r2 ≤ _; omega
  | 3, _ => show 0 ≤ x.r3 ∧ x.r3 ≤ _; omega
  | 4, _ => show 0 ≤ x.r4 ∧ x.r4 ≤ _; omega
  | 5, _ => show 0 ≤ x.r5 ∧ x.r5 ≤ _; omega
  | 6, _ => show 0 ≤ x.r6 ∧ x.r6 ≤ _; omega
  | 7, _ => show 0 ≤ x.r7 ∧ x.r7 ≤ _; omega
theorem RwOk.up {x : Th} {m m' : Int} (h : RwOk x m) (hm : m ≤ m') : RwOk x m' := ⟨h.kd, h.n, h.nn, h.hn, by have := h.sm; omega⟩
theorem rwInv_up (f : Bool) (j : Nat) (x : Th) (s : St) (h : rwInv f j x s) : rwInv f (j + 1) x s := ⟨h.1.up (by omega), h.2⟩
theorem rl_addR (x : Th) {t : Nat} (ht : t < 8) (d : Int) : (x.addR t d).rl = x.rl.set t (x.rl.getD t 0 + d) := by
  match t, ht with
  | 0, _ => rfl
  | 1, _ => rfl
  | 2, _ => rfl
  | 3, _ => rfl
  | 4, _ => rfl
  | 5, _ => rfl
  | 6, _ => rfl
  | 7, _ => rfl
theorem addR_rest (x : Th) (t : Nat) (d : Int) : (x.addR t d).kind = x.kind ∧ (x.addR t d).n = x.n ∧ (x.addR t d).owner = x.owner ∧ (x.addR t d).holds = x.holds := by
  unfold Th.addR
  split <;> exact ⟨rfl, rfl, rfl, rfl⟩
theorem sum_addR (x : Th) {t : Nat} (ht : t < 8) (d : Int) : sum8 (x.addR t d) = sum8 x + d := by
  rw [sum8_eq, sum8_eq]
  match t, ht with
  | 0, _ => simp only [Th.addR]; omega
  | 1, _ => simp only [Th.addR]; omega
  | 2, _ => simp only [Th.addR]; omega
  | 3, _ => simp only [Th.addR]; omega
  | 4, _ => simp only [Th.addR]; omega
  | 5, _ => simp only [Th.addR]; omega
  | 6, _ => simp only [Th.addR]; omega
  | 7, _ => simp only [Th.addR]; omega
theorem rl_len (x : Th) : x.rl.length = 8 := rfl
theorem get_addR (x : Th) {t i : Nat} (ht : t < 8) (hi : i < 8) (d : Int) : (x.addR t d).rl.getD i 0 = if i = t then x.rl.getD t 0 + d else x.rl.getD i 0 := by
  rw [rl_addR x ht, List.getD_eq_getElem?_getD]
  by_cases h : i = t
  · subst h
    rw [if_pos rfl, List.getElem?_set_self (by rw [rl_len]; exact ht)]
    rfl
  · rw [if_neg h, List.getElem?_set_ne (fun e => h e.symm), ← List.getD_eq_getElem?_getD]
theorem RwOk.add {x : Th} {m m' d : Int} {t : Nat} (h : RwOk x m) (ht : t < 8) (hd : 0 ≤ x.rl.getD t 0 + d) (hm : m + d ≤ m') : RwOk (x.addR t d) m' := by
  obtain ⟨h1, h2, h3, h4⟩ := addR_rest x t d
  refine ⟨h1.trans h.kd, h2.trans h.n, fun r hr => ?_, by rw [h4]; exact h.hn, by rw [h4, sum_addR x ht]; have := h.sm; omega⟩
  obtain ⟨i, hi, rfl⟩ := List.mem_iff_getElem.1 hr
  have hi8 : i < 8 := by rw [rl_len] at hi; exact hi
  have hg := get_addR x ht hi8 d
  rw [List.getD_eq_getElem?_getD, List.getElem?_eq_getElem hi, Option.getD_some] at hg
  rw [hg]
  split
  · exact hd
  · exact (h.one hi8).1
theorem sum_mine {x : Th} {o : Nat} (ho : o < 8) (h : ∀ i, i < 8 → i ≠ o → x.rl.getD i 0 = 0) : sum8 x = x.rl.getD o 0 := by
  have g0 := h 0 (by omega)
  have g1 := h 1 (by omega)
  have g2 := h 2 (by omega)
  have g3 := h 3 (by omega)
  have g4 := h 4 (by omega)
  have g5 := h 5 (by omega)
  have g6 := h 6 (by omega)
  have g7 := h 7 (by omega)
  clear h
  change 0 ≠ o → x.r0 = 0 at g0
  change 1 ≠ o → x.r1 = 0 at g1
  change 2 ≠ o → x.r2 = 0 at g2
  change 3 ≠ o → x.r3 = 0 at g3
  change 4 ≠ o → x.r4 = 0 at g4
  change 5 ≠ o → x.r5 = 0 at g5
  change 6 ≠ o → x.r6 = 0 at g6
  change 7 ≠ o → x.r7 = 0 at g7
  rw [sum8_eq]
  match o, ho with
  | 0, _ => show _ = x.r0; omega
  | 1, _ => show _ = x.r1; omega
  | 2, _ => show _ = x.r2; omega
  | 3, _ => show _ = x.r3; omega
  | 4, _ => show _ = x.r4; omega
  | 5, _ => show _ = x.r5; omega
  | 6, _ => show _ = x.r6; omega
  | 7, _ => show _ = x.r7; omega
theorem all0 {x : Th} {m : Int} (h : RwOk x m) (hs : sum8 x = 0) {i : Nat} (hi : i < 8) : x.rl.getD i 0 = 0 := by
  have := h.one hi
  omega
-- what the forms say
section
variable (x : Th) (sv : Int)
theorem v_var {t : Nat} (ht : t < 8) : (Lin.var t).val (rwXs x sv) = x.rl.getD t 0 := by
  match t, ht with
  | 0, _ => simp [Lin.var, Lin.val, rwXs, dot, Th.rl]
  | 1, _ => simp [Lin.var, Lin.val, rwXs, dot, Th.rl]
  | 2, _ => simp [Lin.var, Lin.val, rwXs, dot, Th.rl]
  | 3, _ => simp [Lin.var, Lin.val, rwXs, dot, Th.rl]
  | 4, _ => simp [Lin.var, Lin.val, rwXs, dot, Th.rl]
  | 5, _ => simp [Lin.var, Lin.val, rwXs, dot, Th.rl]
  | 6, _ => simp [Lin.var, Lin.val, rwXs, dot, Th.rl]
  | 7, _ => simp [Lin.var, Lin.val, rwXs, dot, Th.rl]
theorem v_h : (Lin.var 8).val (rwXs x sv) = x.holds := by simp [Lin.var, Lin.val, rwXs, dot]
theorem v_q : (Lin.var 9).val (rwXs x sv) = x.owner + 1 := by simp [Lin.var, Lin.val, rwXs, dot]
theorem v_s : (Lin.var 10).val (rwXs x sv) = sv := by simp [Lin.var, Lin.val, rwXs, dot]
theorem v_sum : rwSum.val (rwXs x sv) = sum8 x := by
  rw [sum8_eq]
  simp [rwSum, Lin.val, rwXs, dot]
  omega
theorem v_neg {t : Nat} (ht : t < 8) : (rwNeg t).val (rwXs x sv) = -1 - x.rl.getD t 0 := by
  match t, ht with
  | 0, _ => simp [rwNeg, Lin.val, rwXs, dot, Th.rl, List.range, List.range.loop]; omega
  | 1, _ => simp [rwNeg, Lin.val, rwXs, dot, Th.rl, List.range, List.range.loop]; omega
  | 2, _ => simp [rwNeg, Lin.val, rwXs, dot, Th.rl, List.range, List.range.loop]; omega
  | 3, _ => simp [rwNeg, Lin.val, rwXs, dot, Th.rl, List.range, List.range.loop]; omega
  | 4, _ => simp [rwNeg, Lin.val, rwXs, dot, Th.rl, List.range, List.range.loop]; omega
  | 5, _ => simp [rwNeg, Lin.val, rwXs, dot, Th.rl, List.range, List.range.loop]; omega
  | 6, _ => simp [rwNeg, Lin.val, rwXs, dot, Th.rl, List.range, List.range.loop]; omega
  | 7, _ => simp [rwNeg, Lin.val, rwXs, dot, Th.rl, List.range, List.range.loop]; omega
theorem v_addC (l : Lin) (c : Int) (xs : List Int) : (addC l c).val xs = l.val xs + c := by simp only [addC, Lin.val]; omega
theorem lay_base (f : Bool) : ((List.range 8).foldl (fun l i => l.set (6 + i) (Lin.var i)) ((lay0 4 0 f).map Lin.con)).map (·.val (rwXs x sv)) = [17, 17, 0, 0, 4, if f then 1 else 0, x.r0, x.r1, x.r2, x.r3, x.r4, x.r5, x.r6, x.r7, 0, 0, 0, 0, 0, 0, 0, 0] := by
  cases f <;> simp [List.range, List.range.loop, lay0, Lin.var, Lin.con, Lin.val, rwXs, dot]
theorem lay_0 (f : Bool) (t : Nat) (ho : x.owner = -1) (hh : x.holds = 0) (hs : sv = sum8 x) : (rwLay f 0 t).map (·.val (rwXs x sv)) = rwCells f x sv := by
  show (List.set _ 2 rwSum).map _ = _
  rw [List.map_set, lay_base, v_sum, ← hs]
  unfold rwCells
  rw [ho, hh]
  rfl
theorem lay_1 (f : Bool) {t : Nat} (ht : t < 8) (ho : x.owner = t) (hs : sv = -1 - x.rl.getD t 0) : (rwLay f 1 t).map (·.val (rwXs x sv)) = rwCells f x sv := by
  show (List.set (List.set (List.set _ 2 (rwNeg t)) 3 (Lin.con (t + 1))) 14 (Lin.var 8)).map _ = _
  rw [List.map_set, List.map_set, List.map_set, lay_base, v_neg _ _ ht, Lin.val_con, v_h, ← hs]
  unfold rwCells
  rw [ho]
  rfl
theorem lay_2 (f : Bool) (t : Nat) : (rwLay f 2 t).map (·.val (rwXs x sv)) = rwCells f x sv := by
  show (List.set (List.set (List.set _ 2 (Lin.var 10)) 3 (Lin.var 9)) 14 (Lin.var 8)).map _ = _
  rw [List.map_set, List.map_set, List.map_set, lay_base, v_s, v_q, v_h]
  rfl
end
theorem cells_add (f : Bool) (x : Th) (sv sv' d : Int) {t : Nat} (ht : t < 8) : ((rwCells f x sv).set 2 sv').set (6 + t) (x.rl.getD t 0 + d) = rwCells f (x.addR t d) sv' := by
  match t, ht with
  | 0, _ => rfl
  | 1, _ => rfl
  | 2, _ => rfl
  | 3, _ => rfl
  | 4, _ => rfl
  | 5, _ => rfl
  | 6, _ => rfl
  | 7, _ => rfl
theorem holds1 {xs : List Int} {a : Lin × Nat} (ha : holdC xs a) : ∀ p ∈ [a], holdC xs p := fun p hp => by
  obtain rfl := List.mem_singleton.1 hp
  exact ha
theorem holds2 {xs : List Int} {a b : Lin × Nat} (ha : holdC xs a) (hb : holdC xs b) : ∀ p ∈ [a, b], holdC xs p := fun p hp => by
  rcases List.mem_cons.1 hp with rfl | hp
  · exact ha
  · exact holds1 hb p hp
theorem holds3 {xs : List Int} {a b c : Lin × Nat} (ha : holdC xs a) (hb : holdC xs b) (hc : holdC xs c) : ∀ p ∈ [a, b, c], holdC xs p := fun p hp => by
  rcases List.mem_cons.1 hp with rfl | hp
  · exact ha
  · exact holds2 hb hc p hp
theorem holds4 {xs : List Int} {a b c d : Lin × Nat} (ha : holdC xs a) (hb : holdC xs b) (hc : holdC xs c) (hd : holdC xs d) : ∀ p ∈ [a, b, c, d], holdC xs p := fun p hp => by
  rcases List.mem_cons.1 hp with rfl | hp
  · exact ha
  · exact holds3 hb hc hd p hp
theorem holds0 {xs : List Int} : ∀ p ∈ ([] : List (Lin × Nat)), holdC xs p := fun p hp => by cases hp
theorem nvK (xs : List Int) (k v : Int) : nval xs [(k, Lin.con v)] = [(k, v)] := by simp [nval, Lin.val_con]
def rwRest (f : Bool) (t : Nat) : List (Nat × Run) :=
  let r := Lin.var t
  let q := addC (Lin.var 9) (-(t + 1))
  let h := Lin.var 8
  let L0 := rwLay f 0 t
  let L1 := rwLay f 1 t
  let L2 := rwLay f 2 t
  let R0 := (L0.set 2 (addC rwSum 1)).set (6 + t) (addC r 1)
  let U0 := (L0.set 2 (addC rwSum (-1))).set (6 + t) (addC r (-1))
  let W0 := ((L0.set 2 (Lin.con (-1))).set 3 (Lin.con (t + 1))).set 14 (Lin.con 1)
  let R1 := (L1.set 2 (addC (rwNeg t) (-1))).set (6 + t) (addC r 1)
  let U1 := (L1.set 2 (addC (rwNeg t) 1)).set (6 + t) (addC r (-1))
  let W1 := L1.set 14 (addC h 1)
  let F1 := L1.set 14 (addC h (-1))
  let F0 := ((L1.set 2 r).set 3 (Lin.con 0)).set 14 (Lin.con 0)
  [
    (0, ⟨11, Lin.con 0, [false, false], [(rwSum, 3), (addC rwSum (-1000), 1)], [(2, Lin.con 0)], Lin.con 0, R0⟩),
    (1, ⟨11, Lin.con 0, [false], [(addC (rwNeg t) 1001, 1)], [(2, Lin.con 0)], Lin.con 0, R1⟩),
    (2, ⟨11, Lin.con 0, [false, true], [(q, 1), (Lin.var 10, 2)], [(5, Lin.con 1)], Lin.con 1, L2⟩),
    (0, ⟨12, Lin.con 0, [true], [(r, 0)], [(6, Lin.con 1)], Lin.con 4, L0⟩),
    (0, ⟨12, Lin.con 0, [false, false, false], [(r, 1), (rwSum, 3), (addC rwSum (-1), 1)], [(4, Lin.con 0)], Lin.con 0, U0⟩),
    (0, ⟨12, Lin.con 0, [false, false, true], [(r, 1), (rwSum, 3), (addC rwSum (-1), 0)], [(4, Lin.con 0)], Lin.con 0, U0⟩),
    (1, ⟨12, Lin.con 0, [true], [(r, 0)], [(6, Lin.con 1)], Lin.con 4, L1⟩),
    (1, ⟨12, Lin.con 0, [false, true], [(r, 1), (rwNeg t, 2)], [(4, Lin.con 0)], Lin.con 0, U1⟩),
    (2, ⟨12, Lin.con 0, [true], [(r, 0)], [(6, Lin.con 1)], Lin.con 4, L2⟩),
    (0, ⟨13, Lin.con 0, [false], [(rwSum, 1)], [(17, Lin.con 0)], Lin.con 3, L0⟩),
    (0, ⟨13, Lin.con 0, [true, true], [(rwSum, 0), (rwSum, 0)], [(1, Lin.con 1)], Lin.con 0, W0⟩),
    (1, ⟨13, Lin.con 0, [false], [(addC h (-1000), 1)], [(1, Lin.con 1)], Lin.con 0, W1⟩),
    (2, ⟨13, Lin.con 0, [false, false], [(q, 1), (Lin.var 10, 1)], [(17, Lin.con 0)], Lin.con 3, L2⟩),
    (0, ⟨14, Lin.con 0, [false], [(rwSum, 1)], [(5, Lin.con 0)], Lin.con 1, L0⟩),
    (0, ⟨14, Lin.con 0, [true, true], [(rwSum, 0), (rwSum, 0)], [(1, Lin.con 1)], Lin.con 0, W0⟩),
    (1, ⟨14, Lin.con 0, [false], [(addC h (-1000), 1)], [(1, Lin.con 1)], Lin.con 0, W1⟩),
    (2, ⟨14, Lin.con 0, [false, false], [(q, 1), (Lin.var 10, 1)], [(5, Lin.con 0)], Lin.con 1, L2⟩),
    (0, ⟨15, Lin.con 0, [], [], [(6, Lin.con 0)], Lin.con 4, L0⟩),
    (1, ⟨15, Lin.con 0, [false], [(addC h (-1), 1)], [(3, Lin.con 0)], Lin.con 0, F1⟩),
    (1, ⟨15, Lin.con 0, [true], [(addC h (-1), 0)], [(3, Lin.con 0)], Lin.con 0, F0⟩),
    (2, ⟨15, Lin.con 0, [false], [(q, 1)], [(6, Lin.con 0)], Lin.con 4, L2⟩)]
theorem mem_rest {f : Bool} {t i : Nat} {p : Nat × Run} (h : (rwRest f t)[i]? = some p) : p ∈ rwRuns f t := by
  obtain ⟨l, hl⟩ : ∃ l, rwRuns f t = l ++ rwRest f t := ⟨_, rfl⟩
  rw [hl]
  exact List.mem_append_right _ (List.mem_of_getElem? h)
theorem rw_one {c : List Ins} {l : List Lb} (hmay : ∀ x ∈ c, mayB x = true) {f : Bool} {t : Nat} (hall : ∀ p ∈ rwRuns f t, runOk c l (rwLay f p.1 t) p.2 t = true) (ht : t < 8) {cls : Nat} {r : Run} (hi : (cls, r) ∈ rwRuns f t) {x : Th} {sv : Int} {s : St} (hx : ∀ y ∈ rwXs x sv, y.natAbs ≤ 100000)
    (h1 : s.now = 0) (h2 : s.thr = List.replicate 8 prk0) (h3 : s.cells = rwCells f x sv) (hL : (rwLay f cls t).map (·.val (rwXs x sv)) = rwCells f x sv) {k : Int} (hk : k = r.kind) (ha : askB k 0 = r.ask.val (rwXs x sv)) (hc : ∀ p ∈ r.cs, holdC (rwXs x sv) p)
    (y : Th) (sv' : Int) (hcl : r.cells.map (·.val (rwXs x sv)) = rwCells f y sv') (j : Nat) (hok : RwOk y j) (hst : rwSt y sv') {val : Int} {ns : List (Int × Int)} (hval : r.val.val (rwXs x sv) = val) (hns : nval (rwXs x sv) r.notes = ns) :
    ∃ s', alG c t 500 [] (fr0 (findB l (nb (entB k))) [1, askB k 0, 0, 0] 4) s [] = some (val, ns, true, s') ∧ rwInv f j y s' := by
  subst hk hval hns
  obtain ⟨s', hg, hs⟩ := run_sound hmay (hall _ hi) ht hx ha ⟨h1, h2, h3.trans hL.symm⟩ hc
  exact ⟨s', hg, hok, hs.now, hs.thr, sv', hst, hs.cells.trans hcl⟩
theorem ofK_le {k o : Int} (h : ofK k = o) (ho : o ≠ 0) : ∃ m : Nat, m < 20 ∧ k = (m : Int) ∧ ofT.getD m 0 = o := by
  have hr := ofK_rng h ho
  refine ⟨k.toNat, by omega, by omega, ?_⟩
  unfold ofK at h
  rwa [if_pos ⟨by omega, by omega⟩] at h
theorem absV_nn {v : Int} (h : 0 ≤ v) : absV v = v := by unfold absV; rw [if_neg (by omega)]
theorem same_one {k a b : Int} (h : absV a = b) : SameN [(k, a)] [(k, b)] := by
  refine ⟨rfl, fun i p q hp hq => ?_⟩
  cases i with
  | zero => cases hp; cases hq; exact ⟨rfl, h⟩
  | succ i => cases hp
theorem plc {c : List Ins} {l : List Lb} {t j : Nat} {k n ob wt : Int} {br : Bool} {x y : Th} {s s' : St} {Inv : Nat → Th → St → Prop} {v val : Int} {ns ns' want : List (Int × Int)} (hg : alG c t 500 [] (fr0 (findB l (nb (entB k))) [1, askB k n, 0, 0] 4) s [] = some (v, ns, true, s')) (hi : Inv (j + 1) y s') (hv : v = val) (hn : ns = ns') (hs : SameN ns' want)
    (hE : ∀ w, Calls Try.prog 28 #[x.v, .int .i64 t, opV k ob n wt br] w (ExPost w y want val)) :
    ∃ val ns s' y want, alG c t 500 [] (fr0 (findB l (nb (entB k))) [1, askB k n, 0, 0] 4) s [] = some (val, ns, true, s') ∧ Inv (j + 1) y s' ∧ SameN ns want ∧ ∀ w, Calls Try.prog 28 #[x.v, .int .i64 t, opV k ob n wt br] w (ExPost w y want val) := by
  subst hv hn
  exact ⟨_, _, _, _, _, hg, hi, hs, hE⟩
theorem ofK_4 {k : Int} (h : ofK k = 4) : k = 10 ∨ k = 11 ∨ k = 12 ∨ k = 13 ∨ k = 14 ∨ k = 15 := by
  obtain ⟨m, hm, rfl, ho⟩ := ofK_le h (by decide)
  have : ∀ m : Fin 20, ofT.getD m.val 0 = 4 → m.val = 10 ∨ m.val = 11 ∨ m.val = 12 ∨ m.val = 13 ∨ m.val = 14 ∨ m.val = 15 := by decide
  have := this ⟨m, hm⟩ ho
  dsimp only at this
  omega
theorem chN_10 (m : Int) : chN 10 0 m = [(2, 0), (7, 1), (17, 0)] := by simp [chN]
theorem chR_10 (m : Int) : chR 10 m = [0, 5, 3] := by simp [chR]
theorem chN_11 (m : Int) : chN 11 0 m = [(2, 0), (7, 1), (5, 1)] := by simp [chN]
theorem chR_11 (m : Int) : chR 11 m = [0, 5, 1] := by simp [chR]
theorem chN_12 (m : Int) : chN 12 0 m = [(4, 0), (6, 1)] := by simp [chN]
theorem chR_12 (m : Int) : chR 12 m = [0, 4] := by simp [chR]
theorem chN_13 (m : Int) : chN 13 0 m = [(1, 1), (7, 0), (17, 0)] := by simp [chN]
theorem chR_13 (m : Int) : chR 13 m = [0, 5, 3] := by simp [chR]
theorem chN_14 (m : Int) : chN 14 0 m = [(1, 1), (7, 0), (5, 0)] := by simp [chN]
theorem chR_14 (m : Int) : chR 14 m = [0, 5, 1] := by simp [chR]
theorem chN_15 (m : Int) : chN 15 0 m = [(3, 0), (6, 0)] := by simp [chN]
theorem chR_15 (m : Int) : chR 15 m = [0, 4] := by simp [chR]
theorem rwInv_0 (f : Bool) : rwInv f 0 (thNew 4 0) ⟨lay0 4 0 f, List.replicate 8 prk0, 0⟩ := by
  refine ⟨⟨rfl, rfl, ?_, Int.le_refl _, by rw [sum8_eq]; decide⟩, rfl, rfl, 0, .inl ⟨rfl, rfl, by rw [sum8_eq]; rfl⟩, by cases f <;> rfl⟩
  intro r hr
  simp only [Th.rl, thNew, List.mem_cons, List.not_mem_nil, or_false] at hr
  omega
theorem xs_small {j : Nat} (hj : j < 40) {x : Th} (hok : RwOk x j) {sv : Int} (ho0 : -1 ≤ x.owner) (ho1 : x.owner < 8) (hs0 : -1000 ≤ sv) (hs1 : sv ≤ 1000) : ∀ y ∈ rwXs x sv, y.natAbs ≤ 100000 := by
  have h0 := hok.all
  have hs := hok.sm
  have hh := hok.hn
  rw [sum8_eq] at hs
  simp only [rwXs, List.mem_cons, List.not_mem_nil, or_false, forall_eq_or_imp, forall_eq]
  omega
/-- What the step of one kind of calls has to show. -/
def StepK (c : List Ins) (l : List Lb) (f : Bool) (j : Nat) (x : Th) (s : St) (t : Nat) (k ob wt : Int) (br : Bool) : Prop :=
  ∃ val ns s' y want, alG c t 500 [] (fr0 (findB l (nb (entB k))) [1, askB k 0, 0, 0] 4) s [] = some (val, ns, true, s') ∧ rwInv f (j + 1) y s' ∧ SameN ns want ∧ ∀ w, Calls Try.prog 28 #[x.v, .int .i64 t, opV k ob 0 wt br] w (ExPost w y want val)
section
variable {c : List Ins} {l : List Lb} (hmay : ∀ x ∈ c, mayB x = true) {f : Bool} {t : Nat} (hall : ∀ p ∈ rwRuns f t, runOk c l (rwLay f p.1 t) p.2 t = true) (ht : t < 8) {j : Nat} (hj : j < 40) {x : Th} {s : St} (hok : RwOk x j) (h1 : s.now = 0) (h2 : s.thr = List.replicate 8 prk0) {sv : Int} (h3 : s.cells = rwCells f x sv)
include hmay hall ht hj hok h1 h2 h3
/-- Nobody writes. -/
theorem cls0 (ob wt : Int) (br : Bool) (ho : x.owner = -1) (hh : x.holds = 0) (hs : sv = sum8 x) (k : Int) (hk : k = 10 ∨ k = 11 ∨ k = 12 ∨ k = 13 ∨ k = 14 ∨ k = 15) : StepK c l f j x s t k ob wt br := by
  have hsn := hok.sn
  have hsm := hok.sm
  have hone := hok.one ht
  have hb := hok.bd (by omega)
  have hx := xs_small (sv := sv) hj hok (by omega) (by omega) (by omega) (by omega)
  have hL := lay_0 x sv f t ho hh hs
  have vS := v_sum x sv
  have vr := v_var x sv ht
  have hn0 : 0 ≤ x.n := by rw [hok.n]; decide
  have hn1 : x.n ≤ 1000 := by rw [hok.n]; decide
  have hh0 : 0 ≤ x.holds := by omega
  have hh1 : x.holds ≤ 1000 := by omega
  have hR : (((rwLay f 0 t).set 2 (addC rwSum 1)).set (6 + t) (addC (Lin.var t) 1)).map (·.val (rwXs x sv)) = rwCells f (x.addR t 1) (sv + 1) := by
    rw [List.map_set, List.map_set, hL, v_addC, v_addC, vS, vr, hs, cells_add f x _ _ _ ht]
  have hU : (((rwLay f 0 t).set 2 (addC rwSum (-1))).set (6 + t) (addC (Lin.var t) (-1))).map (·.val (rwXs x sv)) = rwCells f (x.addR t (-1)) (sv + -1) := by
    rw [List.map_set, List.map_set, hL, v_addC, v_addC, vS, vr, hs, cells_add f x _ _ _ ht]
  obtain ⟨a1, a2, a3, a4⟩ := addR_rest x t 1
  obtain ⟨b1, b2, b3, b4⟩ := addR_rest x t (-1)
  have okR : RwOk (x.addR t 1) ((j + 1 : Nat) : Int) := hok.add ht (by omega) (by omega)
  have stR : rwSt (x.addR t 1) (sv + 1) := .inl ⟨a3.trans ho, a4.trans hh, by rw [sum_addR x ht, hs]⟩
  have stX : rwSt x sv := .inl ⟨ho, hh, hs⟩
  have okX : RwOk x ((j + 1 : Nat) : Int) := hok.up (by omega)
  have D2 : DoIs x t (2, 0) (x.addR t 1, true) := doRw x hok.kd ht (by decide) (r := (x.addR t 1, true)) (fun w => rw_2a x t w ht hb hh0 hh1 ho (by omega))
  rcases hk with rfl | rfl | rfl | rfl | rfl | rfl
  · have key : ∃ s', alG c t 500 [] (fr0 (findB l (nb (entB 10))) [1, askB 10 0, 0, 0] 4) s [] = some (0, [(2, 0)], true, s') ∧ rwInv f (j + 1) (x.addR t 1) s' := by
      cases f with
      | false =>
        exact rw_one hmay hall ht (List.mem_of_getElem? (i := 0) rfl) hx h1 h2 h3 hL rfl (by rw [Lin.val_con]; rfl) (holds2 (show 0 ≤ rwSum.val _ by rw [vS]; exact hsn) (show (addC rwSum (-1000)).val _ ≠ 0 by rw [v_addC, vS]; omega)) _ _ hR _ okR stR (Lin.val_con _ _) (nvK _ _ _)
      | true =>
        by_cases hr : x.rl.getD t 0 = 0
        · exact rw_one hmay hall ht (List.mem_of_getElem? (i := 1) rfl) hx h1 h2 h3 hL rfl (by rw [Lin.val_con]; rfl) (holds3 (show (Lin.var t).val _ = 0 by rw [vr]; exact hr) (show 0 ≤ rwSum.val _ by rw [vS]; exact hsn) (show (addC rwSum (-1000)).val _ ≠ 0 by rw [v_addC, vS]; omega)) _ _ hR _ okR stR (Lin.val_con _ _) (nvK _ _ _)
        · exact rw_one hmay hall ht (List.mem_of_getElem? (i := 0) rfl) hx h1 h2 h3 hL rfl (by rw [Lin.val_con]; rfl) (holds3 (show (Lin.var t).val _ ≠ 0 by rw [vr]; exact hr) (show 0 ≤ rwSum.val _ by rw [vS]; exact hsn) (show (addC rwSum (-1000)).val _ ≠ 0 by rw [v_addC, vS]; omega)) _ _ hR _ okR stR (Lin.val_con _ _) (nvK _ _ _)
    obtain ⟨s', hg, hi⟩ := key
    exact plc hg hi rfl rfl (same_one (absV_nn (by decide))) (exp_1 (k := 10) (n := 0) (by decide) hn0 hn1 (chN_10 _) (chR_10 _) D2 ob wt br)
  · obtain ⟨s', hg, hi⟩ := rw_one hmay hall ht (mem_rest (i := 0) rfl) hx h1 h2 h3 hL (k := 11) rfl (by rw [Lin.val_con]; rfl) (holds2 (show 0 ≤ rwSum.val _ by rw [vS]; exact hsn) (show (addC rwSum (-1000)).val _ ≠ 0 by rw [v_addC, vS]; omega)) _ _ hR _ okR stR (Lin.val_con _ _) (nvK _ _ _)
    exact plc hg hi rfl rfl (same_one (absV_nn (by decide))) (exp_1 (k := 11) (n := 0) (by decide) hn0 hn1 (chN_11 _) (chR_11 _) D2 ob wt br)
  · by_cases hr : x.rl.getD t 0 = 0
    · obtain ⟨s', hg, hi⟩ := rw_one hmay hall ht (mem_rest (i := 3) rfl) hx h1 h2 h3 hL (k := 12) rfl (by rw [Lin.val_con]; rfl) (holds1 (show (Lin.var t).val _ = 0 by rw [vr]; exact hr)) x sv hL _ okX stX (Lin.val_con _ _) (nvK _ _ _)
      exact plc hg hi rfl rfl (same_one (absV_nn (by decide))) (exp_2 (k := 12) (n := 0) (by decide) hn0 hn1 (chN_12 _) (chR_12 _) (by decide) (doRw x hok.kd ht (by decide) (r := (x, false)) (fun w => rw_4n x t w ht hb hh0 hh1 hr)) (doRw x hok.kd ht (by decide) (r := (x, true)) (fun w => rw_61 x t w ht hb hh0 hh1 hr)) ob wt br)
    · have okU : RwOk (x.addR t (-1)) ((j + 1 : Nat) : Int) := hok.add ht (by omega) (by omega)
      have stU : rwSt (x.addR t (-1)) (sv + -1) := .inl ⟨b3.trans ho, b4.trans hh, by rw [sum_addR x ht, hs]⟩
      have key : ∃ s', alG c t 500 [] (fr0 (findB l (nb (entB 12))) [1, askB 12 0, 0, 0] 4) s [] = some (0, [(4, 0)], true, s') ∧ rwInv f (j + 1) (x.addR t (-1)) s' := by
        by_cases h1' : sum8 x = 1
        · exact rw_one hmay hall ht (mem_rest (i := 5) rfl) hx h1 h2 h3 hL (k := 12) rfl (by rw [Lin.val_con]; rfl) (holds3 (show (Lin.var t).val _ ≠ 0 by rw [vr]; exact hr) (show 0 ≤ rwSum.val _ by rw [vS]; exact hsn) (show (addC rwSum (-1)).val _ = 0 by rw [v_addC, vS]; omega)) _ _ hU _ okU stU (Lin.val_con _ _) (nvK _ _ _)
        · exact rw_one hmay hall ht (mem_rest (i := 4) rfl) hx h1 h2 h3 hL (k := 12) rfl (by rw [Lin.val_con]; rfl) (holds3 (show (Lin.var t).val _ ≠ 0 by rw [vr]; exact hr) (show 0 ≤ rwSum.val _ by rw [vS]; exact hsn) (show (addC rwSum (-1)).val _ ≠ 0 by rw [v_addC, vS]; omega)) _ _ hU _ okU stU (Lin.val_con _ _) (nvK _ _ _)
      obtain ⟨s', hg, hi⟩ := key
      exact plc hg hi rfl rfl (same_one (absV_nn (by decide))) (exp_1 (k := 12) (n := 0) (by decide) hn0 hn1 (chN_12 _) (chR_12 _) (doRw x hok.kd ht (by decide) (r := (x.addR t (-1), true)) (fun w => rw_4y x t w ht hb hh0 hh1 (by omega))) ob wt br)
  · by_cases h0 : sum8 x = 0
    · have okW : RwOk { x with owner := (t : Int), holds := x.holds + 1 } ((j + 1 : Nat) : Int) := ⟨hok.kd, hok.n, hok.nn, by show 0 ≤ x.holds + 1; omega, by show sum8 x + (x.holds + 1) ≤ _; omega⟩
      have stW : rwSt { x with owner := (t : Int), holds := x.holds + 1 } (-1) := .inr ⟨t, ht, rfl, by show 1 ≤ x.holds + 1; omega, fun i hi _ => all0 hok h0 hi, by show -1 = -1 - x.rl.getD t 0; rw [all0 hok h0 ht]; rfl⟩
      have hW : ((((rwLay f 0 t).set 2 (Lin.con (-1))).set 3 (Lin.con (t + 1))).set 14 (Lin.con 1)).map (·.val (rwXs x sv)) = rwCells f { x with owner := (t : Int), holds := x.holds + 1 } (-1) := by
        rw [List.map_set, List.map_set, List.map_set, hL, Lin.val_con, Lin.val_con, Lin.val_con]
        unfold rwCells
        dsimp only
        rw [hh]
        rfl
      obtain ⟨s', hg, hi⟩ := rw_one hmay hall ht (mem_rest (i := 10) rfl) hx h1 h2 h3 hL (k := 13) rfl (by rw [Lin.val_con]; rfl) (holds2 (show rwSum.val _ = 0 by rw [vS]; exact h0) (show rwSum.val _ = 0 by rw [vS]; exact h0)) _ _ hW _ okW stW (Lin.val_con _ _) (nvK _ _ _)
      exact plc hg hi rfl rfl (same_one (absV_nn (by decide))) (exp_1 (k := 13) (n := 0) (by decide) hn0 hn1 (chN_13 _) (chR_13 _) (doRw x hok.kd ht (by decide) (r := ({ x with owner := (t : Int), holds := x.holds + 1 }, true)) (fun w => rw_1a x t w ht hb hh0 hh1 ho h0)) ob wt br)
    · obtain ⟨s', hg, hi⟩ := rw_one hmay hall ht (mem_rest (i := 9) rfl) hx h1 h2 h3 hL (k := 13) rfl (by rw [Lin.val_con]; rfl) (holds1 (show rwSum.val _ ≠ 0 by rw [vS]; exact h0)) x sv hL _ okX stX (Lin.val_con _ _) (nvK _ _ _)
      exact plc hg hi rfl rfl (same_one (absV_nn (by decide))) (exp_3 (k := 13) (n := 0) (by decide) hn0 hn1 (chN_13 _) (chR_13 _) (by decide) (by decide) (by decide) (doRw x hok.kd ht (by decide) (r := (x, false)) (fun w => rw_1n1 x t w ht hb hh0 hh1 ho h0)) (doRw x hok.kd ht (by decide) (r := (x, false)) (fun w => rw_70n x t w ht hb hh0 hh1 (by omega))) (doRw17 x hok.kd ht) ob wt br)
  · by_cases h0 : sum8 x = 0
    · have okW : RwOk { x with owner := (t : Int), holds := x.holds + 1 } ((j + 1 : Nat) : Int) := ⟨hok.kd, hok.n, hok.nn, by show 0 ≤ x.holds + 1; omega, by show sum8 x + (x.holds + 1) ≤ _; omega⟩
      have stW : rwSt { x with owner := (t : Int), holds := x.holds + 1 } (-1) := .inr ⟨t, ht, rfl, by show 1 ≤ x.holds + 1; omega, fun i hi _ => all0 hok h0 hi, by show -1 = -1 - x.rl.getD t 0; rw [all0 hok h0 ht]; rfl⟩
      have hW : ((((rwLay f 0 t).set 2 (Lin.con (-1))).set 3 (Lin.con (t + 1))).set 14 (Lin.con 1)).map (·.val (rwXs x sv)) = rwCells f { x with owner := (t : Int), holds := x.holds + 1 } (-1) := by
        rw [List.map_set, List.map_set, List.map_set, hL, Lin.val_con, Lin.val_con, Lin.val_con]
        unfold rwCells
        dsimp only
        rw [hh]
        rfl
      obtain ⟨s', hg, hi⟩ := rw_one hmay hall ht (mem_rest (i := 14) rfl) hx h1 h2 h3 hL (k := 14) rfl (by rw [Lin.val_con]; rfl) (holds2 (show rwSum.val _ = 0 by rw [vS]; exact h0) (show rwSum.val _ = 0 by rw [vS]; exact h0)) _ _ hW _ okW stW (Lin.val_con _ _) (nvK _ _ _)
      exact plc hg hi rfl rfl (same_one (absV_nn (by decide))) (exp_1 (k := 14) (n := 0) (by decide) hn0 hn1 (chN_14 _) (chR_14 _) (doRw x hok.kd ht (by decide) (r := ({ x with owner := (t : Int), holds := x.holds + 1 }, true)) (fun w => rw_1a x t w ht hb hh0 hh1 ho h0)) ob wt br)
    · obtain ⟨s', hg, hi⟩ := rw_one hmay hall ht (mem_rest (i := 13) rfl) hx h1 h2 h3 hL (k := 14) rfl (by rw [Lin.val_con]; rfl) (holds1 (show rwSum.val _ ≠ 0 by rw [vS]; exact h0)) x sv hL _ okX stX (Lin.val_con _ _) (nvK _ _ _)
      exact plc hg hi rfl rfl (same_one (absV_nn (by decide))) (exp_3 (k := 14) (n := 0) (by decide) hn0 hn1 (chN_14 _) (chR_14 _) (by decide) (by decide) (by decide) (doRw x hok.kd ht (by decide) (r := (x, false)) (fun w => rw_1n1 x t w ht hb hh0 hh1 ho h0)) (doRw x hok.kd ht (by decide) (r := (x, false)) (fun w => rw_70n x t w ht hb hh0 hh1 (by omega))) (doRw x hok.kd ht (by decide) (r := (x, true)) (fun w => rw_50a x t w ht hb hh0 hh1 ho (by omega))) ob wt br)
  · obtain ⟨s', hg, hi⟩ := rw_one hmay hall ht (mem_rest (i := 17) rfl) hx h1 h2 h3 hL (k := 15) rfl (by rw [Lin.val_con]; rfl) holds0 x sv hL _ okX stX (Lin.val_con _ _) (nvK _ _ _)
    exact plc hg hi rfl rfl (same_one (absV_nn (by decide))) (exp_2 (k := 15) (n := 0) (by decide) hn0 hn1 (chN_15 _) (chR_15 _) (by decide) (doRw x hok.kd ht (by decide) (r := (x, false)) (fun w => rw_3n x t w ht hb hh0 hh1 (by omega))) (doRw x hok.kd ht (by decide) (r := (x, true)) (fun w => rw_60 x t w ht hb hh0 hh1 (by omega))) ob wt br)
/-- The thread itself writes. -/
theorem cls1 (ob wt : Int) (br : Bool) (ho : x.owner = (t : Int)) (hh : 1 ≤ x.holds) (hz : ∀ i, i < 8 → i ≠ t → x.rl.getD i 0 = 0) (hs : sv = -1 - x.rl.getD t 0) (k : Int) (hk : k = 10 ∨ k = 11 ∨ k = 12 ∨ k = 13 ∨ k = 14 ∨ k = 15) : StepK c l f j x s t k ob wt br := by
  have hsn := hok.sn
  have hsm := hok.sm
  have hone := hok.one ht
  have hb := hok.bd (by omega)
  have hx := xs_small (sv := sv) hj hok (by omega) (by omega) (by omega) (by omega)
  have hL := lay_1 x sv f ht ho hs
  have vN := v_neg x sv ht
  have vr := v_var x sv ht
  have vh := v_h x sv
  have hn0 : 0 ≤ x.n := by rw [hok.n]; decide
  have hn1 : x.n ≤ 1000 := by rw [hok.n]; decide
  have hh0 : 0 ≤ x.holds := by omega
  have hh1 : x.holds ≤ 1000 := by omega
  have hR : (((rwLay f 1 t).set 2 (addC (rwNeg t) (-1))).set (6 + t) (addC (Lin.var t) 1)).map (·.val (rwXs x sv)) = rwCells f (x.addR t 1) (sv + -1) := by
    rw [List.map_set, List.map_set, hL, v_addC, v_addC, vN, vr, hs, cells_add f x _ _ _ ht]
  have hU : (((rwLay f 1 t).set 2 (addC (rwNeg t) 1)).set (6 + t) (addC (Lin.var t) (-1))).map (·.val (rwXs x sv)) = rwCells f (x.addR t (-1)) (sv + 1) := by
    rw [List.map_set, List.map_set, hL, v_addC, v_addC, vN, vr, hs, cells_add f x _ _ _ ht]
  obtain ⟨a1, a2, a3, a4⟩ := addR_rest x t 1
  obtain ⟨b1, b2, b3, b4⟩ := addR_rest x t (-1)
  have okR : RwOk (x.addR t 1) ((j + 1 : Nat) : Int) := hok.add ht (by omega) (by omega)
  have stR : rwSt (x.addR t 1) (sv + -1) := .inr ⟨t, ht, a3.trans ho, by rw [a4]; exact hh, fun i hi hne => by rw [get_addR x ht hi, if_neg hne]; exact hz i hi hne, by rw [get_addR x ht ht, if_pos rfl, hs]; omega⟩
  have stX : rwSt x sv := .inr ⟨t, ht, ho, hh, hz, hs⟩
  have okX : RwOk x ((j + 1 : Nat) : Int) := hok.up (by omega)
  have D2 : DoIs x t (2, 0) (x.addR t 1, true) := doRw x hok.kd ht (by decide) (r := (x.addR t 1, true)) (fun w => rw_2b x t w ht hb hh0 hh1 ho (by omega))
  have hN1 : (addC (rwNeg t) 1001).val (rwXs x sv) ≠ 0 := by rw [v_addC, vN]; omega
  rcases hk with rfl | rfl | rfl | rfl | rfl | rfl
  · have key : ∃ s', alG c t 500 [] (fr0 (findB l (nb (entB 10))) [1, askB 10 0, 0, 0] 4) s [] = some (0, [(2, 0)], true, s') ∧ rwInv f (j + 1) (x.addR t 1) s' := by
      cases f with
      | false =>
        exact rw_one hmay hall ht (List.mem_of_getElem? (i := 2) rfl) hx h1 h2 h3 hL rfl (by rw [Lin.val_con]; rfl) (holds1 hN1) _ _ hR _ okR stR (Lin.val_con _ _) (nvK _ _ _)
      | true =>
        by_cases hr : x.rl.getD t 0 = 0
        · exact rw_one hmay hall ht (List.mem_of_getElem? (i := 3) rfl) hx h1 h2 h3 hL rfl (by rw [Lin.val_con]; rfl) (holds2 (show (Lin.var t).val _ = 0 by rw [vr]; exact hr) hN1) _ _ hR _ okR stR (Lin.val_con _ _) (nvK _ _ _)
        · exact rw_one hmay hall ht (List.mem_of_getElem? (i := 2) rfl) hx h1 h2 h3 hL rfl (by rw [Lin.val_con]; rfl) (holds2 (show (Lin.var t).val _ ≠ 0 by rw [vr]; exact hr) hN1) _ _ hR _ okR stR (Lin.val_con _ _) (nvK _ _ _)
    obtain ⟨s', hg, hi⟩ := key
    exact plc hg hi rfl rfl (same_one (absV_nn (by decide))) (exp_1 (k := 10) (n := 0) (by decide) hn0 hn1 (chN_10 _) (chR_10 _) D2 ob wt br)
  · obtain ⟨s', hg, hi⟩ := rw_one hmay hall ht (mem_rest (i := 1) rfl) hx h1 h2 h3 hL (k := 11) rfl (by rw [Lin.val_con]; rfl) (holds1 hN1) _ _ hR _ okR stR (Lin.val_con _ _) (nvK _ _ _)
    exact plc hg hi rfl rfl (same_one (absV_nn (by decide))) (exp_1 (k := 11) (n := 0) (by decide) hn0 hn1 (chN_11 _) (chR_11 _) D2 ob wt br)
  · by_cases hr : x.rl.getD t 0 = 0
    · obtain ⟨s', hg, hi⟩ := rw_one hmay hall ht (mem_rest (i := 6) rfl) hx h1 h2 h3 hL (k := 12) rfl (by rw [Lin.val_con]; rfl) (holds1 (show (Lin.var t).val _ = 0 by rw [vr]; exact hr)) x sv hL _ okX stX (Lin.val_con _ _) (nvK _ _ _)
      exact plc hg hi rfl rfl (same_one (absV_nn (by decide))) (exp_2 (k := 12) (n := 0) (by decide) hn0 hn1 (chN_12 _) (chR_12 _) (by decide) (doRw x hok.kd ht (by decide) (r := (x, false)) (fun w => rw_4n x t w ht hb hh0 hh1 hr)) (doRw x hok.kd ht (by decide) (r := (x, true)) (fun w => rw_61 x t w ht hb hh0 hh1 hr)) ob wt br)
    · have okU : RwOk (x.addR t (-1)) ((j + 1 : Nat) : Int) := hok.add ht (by omega) (by omega)
      have stU : rwSt (x.addR t (-1)) (sv + 1) := .inr ⟨t, ht, b3.trans ho, by rw [b4]; exact hh, fun i hi hne => by rw [get_addR x ht hi, if_neg hne]; exact hz i hi hne, by rw [get_addR x ht ht, if_pos rfl, hs]; omega⟩
      obtain ⟨s', hg, hi⟩ := rw_one hmay hall ht (mem_rest (i := 7) rfl) hx h1 h2 h3 hL (k := 12) rfl (by rw [Lin.val_con]; rfl) (holds2 (show (Lin.var t).val _ ≠ 0 by rw [vr]; exact hr) (show (rwNeg t).val _ < 0 by rw [vN]; omega)) _ _ hU _ okU stU (Lin.val_con _ _) (nvK _ _ _)
      exact plc hg hi rfl rfl (same_one (absV_nn (by decide))) (exp_1 (k := 12) (n := 0) (by decide) hn0 hn1 (chN_12 _) (chR_12 _) (doRw x hok.kd ht (by decide) (r := (x.addR t (-1), true)) (fun w => rw_4y x t w ht hb hh0 hh1 (by omega))) ob wt br)
  · have okW : RwOk { x with owner := (t : Int), holds := x.holds + 1 } ((j + 1 : Nat) : Int) := ⟨hok.kd, hok.n, hok.nn, by show 0 ≤ x.holds + 1; omega, by show sum8 x + (x.holds + 1) ≤ _; omega⟩
    have stW : rwSt { x with owner := (t : Int), holds := x.holds + 1 } sv := .inr ⟨t, ht, rfl, by show 1 ≤ x.holds + 1; omega, hz, hs⟩
    have hW : ((rwLay f 1 t).set 14 (addC (Lin.var 8) 1)).map (·.val (rwXs x sv)) = rwCells f { x with owner := (t : Int), holds := x.holds + 1 } sv := by
      rw [List.map_set, hL, v_addC, vh]
      unfold rwCells
      dsimp only
      rw [ho]
      rfl
    obtain ⟨s', hg, hi⟩ := rw_one hmay hall ht (mem_rest (i := 11) rfl) hx h1 h2 h3 hL (k := 13) rfl (by rw [Lin.val_con]; rfl) (holds1 (show (addC (Lin.var 8) (-1000)).val _ ≠ 0 by rw [v_addC, vh]; omega)) _ _ hW _ okW stW (Lin.val_con _ _) (nvK _ _ _)
    exact plc hg hi rfl rfl (same_one (absV_nn (by decide))) (exp_1 (k := 13) (n := 0) (by decide) hn0 hn1 (chN_13 _) (chR_13 _) (doRw x hok.kd ht (by decide) (r := ({ x with owner := (t : Int), holds := x.holds + 1 }, true)) (fun w => rw_1b x t w ht hb hh0 hh1 ho (by omega))) ob wt br)
  · have okW : RwOk { x with owner := (t : Int), holds := x.holds + 1 } ((j + 1 : Nat) : Int) := ⟨hok.kd, hok.n, hok.nn, by show 0 ≤ x.holds + 1; omega, by show sum8 x + (x.holds + 1) ≤ _; omega⟩
    have stW : rwSt { x with owner := (t : Int), holds := x.holds + 1 } sv := .inr ⟨t, ht, rfl, by show 1 ≤ x.holds + 1; omega, hz, hs⟩
    have hW : ((rwLay f 1 t).set 14 (addC (Lin.var 8) 1)).map (·.val (rwXs x sv)) = rwCells f { x with owner := (t : Int), holds := x.holds + 1 } sv := by
      rw [List.map_set, hL, v_addC, vh]
      unfold rwCells
      dsimp only
      rw [ho]
      rfl
    obtain ⟨s', hg, hi⟩ := rw_one hmay hall ht (mem_rest (i := 15) rfl) hx h1 h2 h3 hL (k := 14) rfl (by rw [Lin.val_con]; rfl) (holds1 (show (addC (Lin.var 8) (-1000)).val _ ≠ 0 by rw [v_addC, vh]; omega)) _ _ hW _ okW stW (Lin.val_con _ _) (nvK _ _ _)
    exact plc hg hi rfl rfl (same_one (absV_nn (by decide))) (exp_1 (k := 14) (n := 0) (by decide) hn0 hn1 (chN_14 _) (chR_14 _) (doRw x hok.kd ht (by decide) (r := ({ x with owner := (t : Int), holds := x.holds + 1 }, true)) (fun w => rw_1b x t w ht hb hh0 hh1 ho (by omega))) ob wt br)
  · by_cases h1' : x.holds = 1
    · have okF : RwOk { x with owner := -1, holds := 0 } ((j + 1 : Nat) : Int) := ⟨hok.kd, hok.n, hok.nn, Int.le_refl 0, by show sum8 x + 0 ≤ _; omega⟩
      have hsum := sum_mine ht hz
      have stF : rwSt { x with owner := -1, holds := 0 } (x.rl.getD t 0) := .inl ⟨rfl, rfl, hsum.symm⟩
      have hF : ((((rwLay f 1 t).set 2 (Lin.var t)).set 3 (Lin.con 0)).set 14 (Lin.con 0)).map (·.val (rwXs x sv)) = rwCells f { x with owner := -1, holds := 0 } (x.rl.getD t 0) := by
        rw [List.map_set, List.map_set, List.map_set, hL, vr, Lin.val_con]
        rfl
      obtain ⟨s', hg, hi⟩ := rw_one hmay hall ht (mem_rest (i := 19) rfl) hx h1 h2 h3 hL (k := 15) rfl (by rw [Lin.val_con]; rfl) (holds1 (show (addC (Lin.var 8) (-1)).val _ = 0 by rw [v_addC, vh]; omega)) _ _ hF _ okF stF (Lin.val_con _ _) (nvK _ _ _)
      exact plc hg hi rfl rfl (same_one (absV_nn (by decide))) (exp_1 (k := 15) (n := 0) (by decide) hn0 hn1 (chN_15 _) (chR_15 _) (doRw x hok.kd ht (by decide) (r := ({ x with owner := -1, holds := 0 }, true)) (fun w => rw_3y1 x t w ht hb hh0 hh1 hok.kd ho h1')) ob wt br)
    · have okF : RwOk { x with holds := x.holds - 1 } ((j + 1 : Nat) : Int) := ⟨hok.kd, hok.n, hok.nn, by show 0 ≤ x.holds - 1; omega, by show sum8 x + (x.holds - 1) ≤ _; omega⟩
      have stF : rwSt { x with holds := x.holds - 1 } sv := .inr ⟨t, ht, ho, by show 1 ≤ x.holds - 1; omega, hz, hs⟩
      have hF : ((rwLay f 1 t).set 14 (addC (Lin.var 8) (-1))).map (·.val (rwXs x sv)) = rwCells f { x with holds := x.holds - 1 } sv := by
        rw [List.map_set, hL, v_addC, vh]
        rfl
      obtain ⟨s', hg, hi⟩ := rw_one hmay hall ht (mem_rest (i := 18) rfl) hx h1 h2 h3 hL (k := 15) rfl (by rw [Lin.val_con]; rfl) (holds1 (show (addC (Lin.var 8) (-1)).val _ ≠ 0 by rw [v_addC, vh]; omega)) _ _ hF _ okF stF (Lin.val_con _ _) (nvK _ _ _)
      exact plc hg hi rfl rfl (same_one (absV_nn (by decide))) (exp_1 (k := 15) (n := 0) (by decide) hn0 hn1 (chN_15 _) (chR_15 _) (doRw x hok.kd ht (by decide) (r := ({ x with holds := x.holds - 1 }, true)) (fun w => rw_3y2 x t w ht hb hh0 hh1 hok.kd ho (by omega))) ob wt br)
/-- Another one writes. -/
theorem cls2 (ob wt : Int) (br : Bool) (o : Nat) (ho8 : o < 8) (hot : o ≠ t) (ho : x.owner = (o : Int)) (hh : 1 ≤ x.holds) (hz : ∀ i, i < 8 → i ≠ o → x.rl.getD i 0 = 0) (hs : sv = -1 - x.rl.getD o 0) (k : Int) (hk : k = 10 ∨ k = 11 ∨ k = 12 ∨ k = 13 ∨ k = 14 ∨ k = 15) : StepK c l f j x s t k ob wt br := by
  have hsn := hok.sn
  have hsm := hok.sm
  have hone := hok.one ho8
  have hr := hz t ht (fun e => hot e.symm)
  have hb := hok.bd (by omega)
  have hx := xs_small (sv := sv) hj hok (by omega) (by omega) (by omega) (by omega)
  have hL := lay_2 x sv f t
  have vq := v_q x sv
  have vs := v_s x sv
  have vr := v_var x sv ht
  have hn0 : 0 ≤ x.n := by rw [hok.n]; decide
  have hn1 : x.n ≤ 1000 := by rw [hok.n]; decide
  have hh0 : 0 ≤ x.holds := by omega
  have hh1 : x.holds ≤ 1000 := by omega
  have stX : rwSt x sv := .inr ⟨o, ho8, ho, hh, hz, hs⟩
  have okX : RwOk x ((j + 1 : Nat) : Int) := hok.up (by omega)
  have ho1 : x.owner ≠ -1 := by omega
  have hot' : x.owner ≠ (t : Int) := by omega
  have hq : (addC (Lin.var 9) (-((t : Int) + 1))).val (rwXs x sv) ≠ 0 := by rw [v_addC, vq]; omega
  have hs0 : (Lin.var 10).val (rwXs x sv) < 0 := by rw [vs]; omega
  have hs1 : (Lin.var 10).val (rwXs x sv) ≠ 0 := by rw [vs]; omega
  have hr0 : (Lin.var t).val (rwXs x sv) = 0 := by rw [vr]; exact hr
  have D2 : DoIs x t (2, 0) (x, false) := doRw x hok.kd ht (by decide) (r := (x, false)) (fun w => rw_2n x t w ht hb hh0 hh1 ho1 hot')
  have D1 : DoIs x t (1, 1) (x, false) := doRw x hok.kd ht (by decide) (r := (x, false)) (fun w => rw_1n2 x t w ht hb hh0 hh1 ho1 hot')
  have D71 : DoIs x t (7, 1) (x, false) := doRw x hok.kd ht (by decide) (r := (x, false)) (fun w => rw_71n x t w ht hb hh0 hh1 (by omega))
  have D70 : DoIs x t (7, 0) (x, false) := doRw x hok.kd ht (by decide) (r := (x, false)) (fun w => rw_70n x t w ht hb hh0 hh1 hot')
  rcases hk with rfl | rfl | rfl | rfl | rfl | rfl
  · have key : ∃ s', alG c t 500 [] (fr0 (findB l (nb (entB 10))) [1, askB 10 0, 0, 0] 4) s [] = some (3, [(17, 0)], true, s') ∧ rwInv f (j + 1) x s' := by
      cases f with
      | false =>
        exact rw_one hmay hall ht (List.mem_of_getElem? (i := 4) rfl) hx h1 h2 h3 hL rfl (by rw [Lin.val_con]; rfl) (holds2 hq hs0) x sv hL _ okX stX (Lin.val_con _ _) (nvK _ _ _)
      | true =>
        exact rw_one hmay hall ht (List.mem_of_getElem? (i := 4) rfl) hx h1 h2 h3 hL rfl (by rw [Lin.val_con]; rfl) (holds4 hr0 hq hq hs0) x sv hL _ okX stX (Lin.val_con _ _) (nvK _ _ _)
    obtain ⟨s', hg, hi⟩ := key
    exact plc hg hi rfl rfl (same_one (absV_nn (by decide))) (exp_3 (k := 10) (n := 0) (by decide) hn0 hn1 (chN_10 _) (chR_10 _) (by decide) (by decide) (by decide) D2 D71 (doRw17 x hok.kd ht) ob wt br)
  · obtain ⟨s', hg, hi⟩ := rw_one hmay hall ht (mem_rest (i := 2) rfl) hx h1 h2 h3 hL (k := 11) rfl (by rw [Lin.val_con]; rfl) (holds2 hq hs0) x sv hL _ okX stX (Lin.val_con _ _) (nvK _ _ _)
    exact plc hg hi rfl rfl (same_one (absV_nn (by decide))) (exp_3 (k := 11) (n := 0) (by decide) hn0 hn1 (chN_11 _) (chR_11 _) (by decide) (by decide) (by decide) D2 D71 (doRw x hok.kd ht (by decide) (r := (x, true)) (fun w => rw_51 x t w ht hb hh0 hh1 ho1 hot')) ob wt br)
  · obtain ⟨s', hg, hi⟩ := rw_one hmay hall ht (mem_rest (i := 8) rfl) hx h1 h2 h3 hL (k := 12) rfl (by rw [Lin.val_con]; rfl) (holds1 hr0) x sv hL _ okX stX (Lin.val_con _ _) (nvK _ _ _)
    exact plc hg hi rfl rfl (same_one (absV_nn (by decide))) (exp_2 (k := 12) (n := 0) (by decide) hn0 hn1 (chN_12 _) (chR_12 _) (by decide) (doRw x hok.kd ht (by decide) (r := (x, false)) (fun w => rw_4n x t w ht hb hh0 hh1 hr)) (doRw x hok.kd ht (by decide) (r := (x, true)) (fun w => rw_61 x t w ht hb hh0 hh1 hr)) ob wt br)
  · obtain ⟨s', hg, hi⟩ := rw_one hmay hall ht (mem_rest (i := 12) rfl) hx h1 h2 h3 hL (k := 13) rfl (by rw [Lin.val_con]; rfl) (holds2 hq hs1) x sv hL _ okX stX (Lin.val_con _ _) (nvK _ _ _)
    exact plc hg hi rfl rfl (same_one (absV_nn (by decide))) (exp_3 (k := 13) (n := 0) (by decide) hn0 hn1 (chN_13 _) (chR_13 _) (by decide) (by decide) (by decide) D1 D70 (doRw17 x hok.kd ht) ob wt br)
  · obtain ⟨s', hg, hi⟩ := rw_one hmay hall ht (mem_rest (i := 16) rfl) hx h1 h2 h3 hL (k := 14) rfl (by rw [Lin.val_con]; rfl) (holds2 hq hs1) x sv hL _ okX stX (Lin.val_con _ _) (nvK _ _ _)
    exact plc hg hi rfl rfl (same_one (absV_nn (by decide))) (exp_3 (k := 14) (n := 0) (by decide) hn0 hn1 (chN_14 _) (chR_14 _) (by decide) (by decide) (by decide) D1 D70 (doRw x hok.kd ht (by decide) (r := (x, true)) (fun w => rw_50b x t w ht hb hh0 hh1 ho1 hot')) ob wt br)
  · obtain ⟨s', hg, hi⟩ := rw_one hmay hall ht (mem_rest (i := 20) rfl) hx h1 h2 h3 hL (k := 15) rfl (by rw [Lin.val_con]; rfl) (holds1 hq) x sv hL _ okX stX (Lin.val_con _ _) (nvK _ _ _)
    exact plc hg hi rfl rfl (same_one (absV_nn (by decide))) (exp_2 (k := 15) (n := 0) (by decide) hn0 hn1 (chN_15 _) (chR_15 _) (by decide) (doRw x hok.kd ht (by decide) (r := (x, false)) (fun w => rw_3n x t w ht hb hh0 hh1 hot')) (doRw x hok.kd ht (by decide) (r := (x, true)) (fun w => rw_60 x t w ht hb hh0 hh1 hot')) ob wt br)
end
theorem rw_step {c : List Ins} {l : List Lb} (hmay : ∀ x ∈ c, mayB x = true) (hall : ∀ f t p, p ∈ rwRuns f t → t < 8 → runOk c l (rwLay f p.1 t) p.2 t = true) (f : Bool) : PlStep c l 4 (rwInv f) := by
  intro j x s t k ob v wt br hj hI ht hp
  obtain ⟨hk, hv0, hv1, _, hz⟩ := hp
  have hk := ofK_4 hk
  obtain rfl : v = 0 := by
    by_cases h : v = 0
    · exact h
    · exact absurd ⟨by omega, by omega, by omega, by omega, h⟩ hz
  obtain ⟨hok, h1, h2, sv, hst, h3⟩ := hI
  have ha : ∀ p ∈ rwRuns f t, runOk c l (rwLay f p.1 t) p.2 t = true := fun p hp => hall f t p hp ht
  rcases hst with ⟨ho, hh, hs⟩ | ⟨o, ho8, ho, hh, hz, hs⟩
  · exact cls0 hmay ha ht hj hok h1 h2 h3 ob wt br ho hh hs k hk
  · by_cases hot : o = t
    · subst hot
      exact cls1 hmay ha ht hj hok h1 h2 h3 ob wt br ho hh hz hs k hk
    · exact cls2 hmay ha ht hj hok h1 h2 h3 ob wt br o ho8 hot ho hh hz hs k hk
theorem pc_lit {w : World} {cs : Array Value} (xs : List PC) (h : cs.toList = xs.flatMap PC.enc) (hl : xs.length ≤ 1000) : kPC.C (w.heap.size ≤ ·) (w.alloc (.cells cs 35)) (some ⟨w.heap.size, 0, none⟩) xs := by
  have hs : cs.size = xs.length * 6 := by
    rw [← Array.length_toList, h]
    exact flat_len (enc := PC.enc) (sz := 6) (fun _ => rfl) xs
  have h1 := World.ownsRow_lit (base := w.heap.size) (size := 6) (e := 35) w cs xs.length (Nat.le_refl _) (by unfold maxLen; omega) hs
  rw [h] at h1
  obtain ⟨A, c, e, _, hc⟩ := C_of_own (enc := PC.enc) (hl := fun _ => rfl) (h1 := by intro x u hu; simp [PC.enc] at hu; rcases hu with rfl | rfl | rfl | rfl | rfl | rfl <;> rfl) (h0 := by decide) (ok := (w.heap.size ≤ ·)) h1 (fun k hk => own_base h1 k hk)
  simp only [Value.slice.injEq] at e
  rw [e.1]
  exact hc
theorem rwPlays {oks okt : Nat → Prop} (A0 : Option Addr) (c0 : Nat) (w : World) (hC0 : kStr.C okt w A0 textsRw) (f : Bool) (script : List PC) (As : Option Addr) (cs : Nat) (hS : kPC.C oks w As script) (hr : ∀ c ∈ script, -9223372036854775808 ≤ c.t ∧ c.t ≤ 9223372036854775807) :
    Calls Try.prog 10 #[.slice A0 textsRw.length c0, .agg #[.int .i64 4, .bool f, .int .i64 0], .slice As script.length cs] w fun e w' => e = .returned (.bool true) ∧ Below w.heap.size w w' := by
  obtain ⟨c, l, hA, hmay, hcl, hall⟩ := rw_code
  exact Plays_calls textsRw A0 c0 w hC0 (by simp [textsRw]) rw_sizes.1 rw_sizes.2.1 rw_sizes.2.2 c l hA hcl 4 0 f script As cs hS hr (rwInv f) (rwInv_0 f) (rwInv_up f) (rw_step hmay hall f) (by decide)
set_option maxRecDepth 100000 in
set_option maxHeartbeats 1600000 in
theorem upRw_calls (w : World) : Calls Try.prog 17 #[] w fun e w' => e = .returned (.bool true) ∧ Below w.heap.size w w' := by
  go_enter Try.func17, Try.ntmps17
  go_wp2_with fail
  refine (TextsRw_calls _).mono ?_
  rintro e w1 ⟨A, c, rfl, hC, hb⟩
  have HC := Lib.hid hC
  have HB := Lib.hid hb
  clear hC hb
  go_wp2_with fail
  have hS := pc_lit (w := w1) (cs := #[.int .i64 0, .int .i64 13, .int .i64 0, .int .i64 0, .int .i64 0, .bool false, .int .i64 0, .int .i64 10, .int .i64 0, .int .i64 0, .int .i64 0, .bool false, .int .i64 0, .int .i64 15, .int .i64 0, .int .i64 0, .int .i64 0, .bool false, .int .i64 0, .int .i64 12, .int .i64 0, .int .i64 0, .int .i64 0, .bool false, .int .i64 1, .int .i64 12, .int .i64 0, .int .i64 0, .int .i64 0, .bool false]) [⟨0, 13, 0, 0, 0, false⟩, ⟨0, 10, 0, 0, 0, false⟩, ⟨0, 15, 0, 0, 0, false⟩, ⟨0, 12, 0, 0, 0, false⟩, ⟨1, 12, 0, 0, 0, false⟩] rfl (by decide)
  refine (rwPlays A c _ (HC.out.below (below_alloc (Below.refl _ _) _)) false [⟨0, 13, 0, 0, 0, false⟩, ⟨0, 10, 0, 0, 0, false⟩, ⟨0, 15, 0, 0, 0, false⟩, ⟨0, 12, 0, 0, 0, false⟩, ⟨1, 12, 0, 0, 0, false⟩] _ 5 hS (by decide)).mono ?_
  rintro e w2 ⟨rfl, hb2⟩
  have HB2 := Lib.hid (below_step (below_alloc HB.out _) hb2)
  clear hb2 hS HC
  go_wp2_with fail
  go_ret
  exact ⟨rfl, HB2.out⟩
theorem mayO_4 {k n : Int} {f : Bool} (h : mayO k n f 4 = true) : k = 4 ∧ n = 0 := by
  simp only [mayO, Bool.and_eq_true, Bool.or_eq_true, decide_eq_true_eq, Bool.not_eq_true'] at h
  exact ⟨h.1.1.1.1, by have := h.1.2; omega⟩
set_option maxRecDepth 100000 in
set_option maxHeartbeats 1600000 in
theorem rwlockAlone_row (v0 v1 : Value) (W : World) (h0 : IsObj v0) (h : IsCalls W v1) : Calls Try.prog 7 #[v0, v1] W fun e W' => e = .returned (.bool true) ∧ Below W.heap.size W W' := by
  obtain ⟨k, f, n, rfl⟩ := h0
  obtain ⟨l, A, c, rfl, hS, hr⟩ := h
  have HS := Lib.hid hS
  have HR := Lib.hid hr
  clear hS hr
  go_enter Try.func7, Try.ntmps7
  go_wp2_with fail
  refine (upRw_calls _).mono ?_
  rintro e w1 ⟨rfl, hb1⟩
  have B1 := Lib.hid (below_step (below_alloc (Below.refl W.heap.size W) (.cells #[.int .i64 k, .bool f, .int .i64 n] 23)) hb1)
  have HO1 := Lib.hid ((Bx.new W [.int .i64 k, .bool f, .int .i64 n] 23).below hb1)
  have x0 := HO1.out.cell 0 _ rfl
  have x1 := HO1.out.cell 1 _ rfl
  have x2 := HO1.out.cell 2 _ rfl
  clear hb1
  go_wp2_with fail
  refine (MayO_calls k n 4 f _).mono ?_
  rintro e w2 ⟨rfl, hb2⟩
  have B2 := Lib.hid (below_step B1.out hb2)
  have HO2 := Lib.hid (HO1.out.below hb2)
  have x0 := HO2.out.cell 0 _ rfl
  have x1 := HO2.out.cell 1 _ rfl
  have x2 := HO2.out.cell 2 _ rfl
  clear hb2 B1 HO1
  obtain ⟨b, hb⟩ : ∃ b, mayO k n f 4 = b := ⟨_, rfl⟩
  rw [hb]
  cases b with
  | false =>
    clear hb
    go_wp2_with fail
    clear x0 x1 x2
    refine Muf.region (.q 0 (.q 1 (.q 2 (.q 3 (.q 4 (.q 6 (.q 7 (.m 5 (.m 8 (.q 9 (.q 10 (.q 11 .nil)))))))))))) [0, 1, 2, 3, 4, 6, 7, 5, 8, 9, 10, 11] (fun w' => Below w2.heap.size w2 w') (by kernel_rfl) (by kernel_rfl) (by (repeat (with_reducible first | exact Below.refl _ _ | assumption | apply below_alloc | apply below_drewN | apply below_drew1 | (refine below_set ?_ (by simp only [alloc_size]; omega)) | (refine below_step ?_ (by assumption))))) ?_
    iterate 5 (apply Muf.quiet; (· (simp only [List.getElem?_toArray, List.getElem?_cons_succ, List.getElem?_cons_zero]) <;> rfl); (· intro w' hR V hV; go_simp; exact hV); intro K hK; simp only [Act.put, List.setIfInBounds_toArray, List.set_cons_zero, List.set_cons_succ]; refine hK _ ?_; clear hK K)
    apply Muf.quiet; (· (simp only [List.getElem?_toArray, List.getElem?_cons_succ, List.getElem?_cons_zero]) <;> rfl); (· intro w' hR V hV; have yb := HO2.out.below hR; have y0 := yb.cell 0 _ rfl; have y1 := yb.cell 1 _ rfl; have y2 := yb.cell 2 _ rfl; clear yb; go_simp; exact hV); intro K hK; simp only [Act.put, List.setIfInBounds_toArray, List.set_cons_zero, List.set_cons_succ]; refine hK _ ?_; clear hK K
    apply Muf.quiet; (· (simp only [List.getElem?_toArray, List.getElem?_cons_succ, List.getElem?_cons_zero]) <;> rfl); (· intro w' hR V hV; go_simp; exact hV); intro K hK; simp only [Act.put, List.setIfInBounds_toArray, List.set_cons_zero, List.set_cons_succ]; refine hK _ ?_; clear hK K
    refine Muf.mover (Muf.chk rfl (by decide) ?_)
    go_wp2_with fail
    refine ⟨by (repeat (with_reducible first | exact Below.refl _ _ | assumption | apply below_alloc | apply below_drewN | apply below_drew1 | (refine below_set ?_ (by simp only [alloc_size]; omega)) | (refine below_step ?_ (by assumption)))), ?_⟩
    refine Muf.mover (Muf.chk rfl (by decide) ?_)
    go_wp2_with fail
    refine ⟨by (repeat (with_reducible first | exact Below.refl _ _ | assumption | apply below_alloc | apply below_drewN | apply below_drew1 | (refine below_set ?_ (by simp only [alloc_size]; omega)) | (refine below_step ?_ (by assumption)))), ?_⟩
    iterate 3 (apply Muf.quiet; (· (simp only [List.getElem?_toArray, List.getElem?_cons_succ, List.getElem?_cons_zero]) <;> rfl); (· intro w' hR V hV; go_simp; exact hV); intro K hK; simp only [Act.put, List.setIfInBounds_toArray, List.set_cons_zero, List.set_cons_succ]; refine hK _ ?_; clear hK K)
    refine Muf.done ?_
    go_wp2_with fail
    go_ret
    exact ⟨rfl, below_step B2.out (by (repeat (with_reducible first | exact Below.refl _ _ | assumption | apply below_alloc | apply below_drewN | apply below_drew1 | (refine below_set ?_ (by simp only [alloc_size]; omega)) | (refine below_step ?_ (by assumption)))))⟩
  | true =>
    obtain ⟨rfl, rfl⟩ := mayO_4 hb
    clear hb
    go_wp2_with fail
    clear x0 x1 x2
    refine Muf.region (.q 0 (.q 1 (.q 2 (.q 3 (.q 4 (.q 6 (.q 7 (.m 5 (.m 8 (.q 9 (.q 10 (.q 11 .nil)))))))))))) [0, 1, 2, 3, 4, 6, 7, 5, 8, 9, 10, 11] (fun w' => Below w2.heap.size w2 w') (by kernel_rfl) (by kernel_rfl) (by (repeat (with_reducible first | exact Below.refl _ _ | assumption | apply below_alloc | apply below_drewN | apply below_drew1 | (refine below_set ?_ (by simp only [alloc_size]; omega)) | (refine below_step ?_ (by assumption))))) ?_
    iterate 5 (apply Muf.quiet; (· (simp only [List.getElem?_toArray, List.getElem?_cons_succ, List.getElem?_cons_zero]) <;> rfl); (· intro w' hR V hV; go_simp; exact hV); intro K hK; simp only [Act.put, List.setIfInBounds_toArray, List.set_cons_zero, List.set_cons_succ]; refine hK _ ?_; clear hK K)
    apply Muf.quiet; (· (simp only [List.getElem?_toArray, List.getElem?_cons_succ, List.getElem?_cons_zero]) <;> rfl); (· intro w' hR V hV; have yb := HO2.out.below hR; have y0 := yb.cell 0 _ rfl; have y1 := yb.cell 1 _ rfl; have y2 := yb.cell 2 _ rfl; clear yb; go_simp; exact hV); intro K hK; simp only [Act.put, List.setIfInBounds_toArray, List.set_cons_zero, List.set_cons_succ]; refine hK _ ?_; clear hK K
    apply Muf.quiet; (· (simp only [List.getElem?_toArray, List.getElem?_cons_succ, List.getElem?_cons_zero]) <;> rfl); (· intro w' hR V hV; go_simp; exact hV); intro K hK; simp only [Act.put, List.setIfInBounds_toArray, List.set_cons_zero, List.set_cons_succ]; refine hK _ ?_; clear hK K
    refine Muf.mover (Muf.chk rfl (by decide) ?_)
    go_wp2_with fail
    refine (TextsRw_calls _).mono ?_
    rintro e w3 ⟨A2, c2, rfl, hC, hb3⟩
    have HC := Lib.hid hC
    have B3 := Lib.hid (below_step (show Below w2.heap.size w2 w2.drew by (repeat (with_reducible first | exact Below.refl _ _ | assumption | apply below_alloc | apply below_drewN | apply below_drew1 | (refine below_set ?_ (by simp only [alloc_size]; omega)) | (refine below_step ?_ (by assumption))))) hb3)
    clear hC hb3
    go_wp2_with fail
    refine ⟨B3.out, ?_⟩
    refine Muf.mover (Muf.chk rfl (by decide) ?_)
    go_wp2_with fail
    refine (rwPlays A2 c2 _ HC.out f l A c (HS.out.below (below_step B2.out B3.out)) HR.out).mono ?_
    rintro e w4 ⟨rfl, hb4⟩
    have B4 := Lib.hid (below_step B3.out hb4)
    clear hb4
    go_wp2_with fail
    refine ⟨B4.out, ?_⟩
    iterate 3 (apply Muf.quiet; (· (simp only [List.getElem?_toArray, List.getElem?_cons_succ, List.getElem?_cons_zero]) <;> rfl); (· intro w' hR V hV; go_simp; exact hV); intro K hK; simp only [Act.put, List.setIfInBounds_toArray, List.set_cons_zero, List.set_cons_succ]; refine hK _ ?_; clear hK K)
    refine Muf.done ?_
    go_wp2_with fail
    go_ret
    exact ⟨rfl, below_step B2.out B4.out⟩
end Go.Proofs.Ytegjkheecbmioaa
