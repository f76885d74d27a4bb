/- Runs of objects whose state is one cell: what a symbolic run says of every plain one. -/
import Derived.Test.YtegjkheecbmioaaFnE
import Derived.Test.YtegjkheecbmioaaSym
namespace Go.Proofs.Ytegjkheecbmioaa
open Go.RowKit
set_option linter.unusedVariables false
set_option linter.unusedSimpArgs false

def eqL (a b : Lin) : Bool := (a.sub b).isK && decide ((a.sub b).c = 0)
theorem eqL_val {a b : Lin} (h : eqL a b = true) (xs : List Int) : a.val xs = b.val xs := by
  simp only [eqL, Bool.and_eq_true, decide_eq_true_eq] at h
  have h1 := Lin.val_isK h.1 xs
  rw [Lin.val_sub, h.2] at h1
  omega
def eqLs {α : Type} [DecidableEq α] : List (α × Lin) → List (α × Lin) → Bool
  | [], [] => true
  | a :: l, b :: m => decide (a.1 = b.1) && eqL a.2 b.2 && eqLs l m
  | _, _ => false
theorem eqLs_nval : ∀ {a b : List (Int × Lin)} (h : eqLs a b = true) (xs : List Int), nval xs a = nval xs b
  | [], [], _, _ => rfl
  | a :: l, b :: m, h, xs => by
    simp only [eqLs, Bool.and_eq_true, decide_eq_true_eq] at h
    simp only [nval, List.map_cons]
    rw [h.1.1, eqL_val h.1.2 xs]
    exact congrArg _ (eqLs_nval h.2 xs)
def eqC : List (Lin × Nat) → List (Lin × Nat) → Bool
  | [], [] => true
  | a :: l, b :: m => decide (a.2 = b.2) && eqL a.1 b.1 && eqC l m
  | _, _ => false
theorem eqC_hold : ∀ {a b : List (Lin × Nat)} (h : eqC a b = true) (xs : List Int), (∀ p ∈ b, holdC xs p) → ∀ p ∈ a, holdC xs p
  | [], [], _, _, _ => fun p hp => by cases hp
  | a :: l, b :: m, h, xs, hb => by
    simp only [eqC, Bool.and_eq_true, decide_eq_true_eq] at h
    intro p hp
    rcases List.mem_cons.1 hp with rfl | hp
    · have := hb b List.mem_cons_self
      unfold holdC at this ⊢
      rw [h.1.1, eqL_val h.1.2 xs]
      exact this
    · exact eqC_hold h.2 xs (fun q hq => hb q (List.mem_cons_of_mem _ hq)) p hp
def eqS : List (Option Lin) → List Lin → Bool
  | [], [] => true
  | some a :: l, b :: m => eqL a b && eqS l m
  | _, _ => false
theorem eqS_len : ∀ {a : List (Option Lin)} {b : List Lin}, eqS a b = true → a.length = b.length
  | [], [], _ => rfl
  | some a :: l, b :: m, h => by
    simp only [eqS, Bool.and_eq_true] at h
    simp [eqS_len h.2]
theorem eqS_get : ∀ {a : List (Option Lin)} {b : List Lin} (h : eqS a b = true) (i : Nat) (y : Lin), b[i]? = some y → ∃ x, a[i]? = some (some x) ∧ eqL x y = true
  | [], [], _, i, y, hy => by cases hy
  | some a :: l, b :: m, h, 0, y, hy => by
    simp only [eqS, Bool.and_eq_true] at h
    obtain rfl := Option.some.inj hy
    exact ⟨a, rfl, h.1⟩
  | some a :: l, b :: m, h, i + 1, y, hy => by
    simp only [eqS, Bool.and_eq_true] at h
    exact eqS_get h.2 i y hy
/-- A run: the call's kind, what it asks for, which way the tests go; what they say, the marks, the value, the cells. -/
structure Run where
  kind : Int
  ask : Lin
  orc : List Bool
  cs : List (Lin × Nat)
  notes : List (Int × Lin)
  val : Lin
  cells : List Lin
def runS (at0 : Int) (cells : List Lin) (r : Run) : SS := ⟨at0, [Lin.con 1, r.ask, Lin.con 0, Lin.con 0] ++ List.replicate 12 (Lin.con 0), [], cells.map some, [], [], r.orc⟩
def runOk (c : List Ins) (l : List Lb) (cells : List Lin) (r : Run) (t : Nat) : Bool := match alS c t 0 500 (runS (findB l (nb (entB r.kind))) cells r) with
  | some (S', v) => eqL v r.val && eqLs S'.notes r.notes && eqC S'.cs r.cs && eqS S'.cells r.cells
  | none => false
/-- The plain state at some numbers. -/
structure StIs (xs : List Int) (cells : List Lin) (s : St) : Prop where
  now : s.now = 0
  thr : s.thr = List.replicate 8 prk0
  cells : s.cells = cells.map (·.val xs)
theorem run_sound {c : List Ins} {l : List Lb} (hmay : ∀ x ∈ c, mayB x = true) {cells : List Lin} {r : Run} {t : Nat} (h : runOk c l cells r t = true) (ht : t < 8) {xs : List Int} (hx : ∀ x ∈ xs, x.natAbs ≤ 100000) {asked : Int} (ha : asked = r.ask.val xs) {s : St} (hs : StIs xs cells s) (hc : ∀ p ∈ r.cs, holdC xs p) :
    ∃ s', alG c t 500 [] (fr0 (findB l (nb (entB r.kind))) [1, asked, 0, 0] 4) s [] = some (r.val.val xs, nval xs r.notes, true, s') ∧ StIs xs r.cells s' := by
  unfold runOk at h
  split at h
  · rename_i S' v hS
    simp only [Bool.and_eq_true] at h
    obtain ⟨⟨⟨hv, hno⟩, hcs⟩, hcl⟩ := h
    have hrel : SRel xs 0 t (runS (findB l (nb (entB r.kind))) cells r) [] (fr0 (findB l (nb (entB r.kind))) [1, asked, 0, 0] 4) s := by
      refine ⟨rfl, rfl, ⟨?_, ?_, ?_, hs.now, ⟨prk0, by rw [hs.thr, List.getElem?_replicate_of_lt ht], rfl⟩⟩⟩
      · simp [fr0, runS, Lin.val_con, ha]
      · simp [runS, hs.cells]
      · intro j m hj
        simp only [runS, List.getElem?_map] at hj
        rw [hs.cells, List.getElem?_map]
        cases hcj : cells[j]? with
        | none => rw [hcj] at hj; cases hj
        | some y => rw [hcj] at hj; obtain rfl := Option.some.inj (Option.some.inj hj); rfl
    obtain ⟨s', f', hg, hsr, hth⟩ := alS_sound hx hmay 500 _ S' _ [] _ s [] hS hrel (eqC_hold hcs xs hc)
    refine ⟨s', ?_, ⟨hsr.hn, hth.trans hs.thr, ?_⟩⟩
    · rw [hg, eqL_val hv xs, show (runS (findB l (nb (entB r.kind))) cells r).notes.length = 0 from rfl, List.drop_zero, List.nil_append, eqLs_nval hno xs]
    · apply List.ext_getElem?
      intro j
      rw [List.getElem?_map]
      by_cases hj : j < r.cells.length
      · obtain ⟨y, hy⟩ : ∃ y, r.cells[j]? = some y := ⟨_, List.getElem?_eq_getElem hj⟩
        obtain ⟨x, hx2, he⟩ := eqS_get hcl j y hy
        rw [hsr.hc j x hx2, hy, eqL_val he xs]
        rfl
      · rw [List.getElem?_eq_none (by rw [hsr.hl, eqS_len hcl]; omega), List.getElem?_eq_none (by omega)]
        rfl
  · cases h
end Go.Proofs.Ytegjkheecbmioaa
