/- The plain law of Assemble. -/
import Derived.Test.YtegjkheecbmioaaTxH
namespace Go.Proofs.Ytegjkheecbmioaa
open Go.RowKit
set_option linter.unusedVariables false
set_option linter.unusedSimpArgs false

def Ln.ins (L : Ln) : Ins := ⟨L.op, L.a, L.b, L.c, L.n⟩
def lab1 (L : Ln) (code : List Ins) (labs : List Lb) : List Lb := if L.label = [] then labs else labs ++ [⟨L.label, code.length⟩]
def code1 (L : Ln) (code : List Ins) : List Ins := if 0 < L.op then code ++ [L.ins] else code
def ok1 (L : Ln) (code : List Ins) (labs : List Lb) : Bool := (decide (L.label = []) || decide (findB labs L.label < 0)) && (decide (L.op ≤ 0) || decide (code.length < 1024))
def asm1 : List (List Nat) → List Ins → List Lb → Option (List Ins × List Lb)
  | [], code, labs => some (code, labs)
  | l :: ls, code, labs => match parseB l with
    | none => none
    | some L => if ok1 L code labs then asm1 ls (code1 L code) (lab1 L code labs) else none
def next2 (L : Ln) (n : Nat) : Nat := if 0 < L.op then n + 1 else n
def code2 (L : Ln) (labs : List Lb) (n : Nat) (code : List Ins) : List Ins := if L.target = [] then code else match code[n]? with
  | some x => code.set n { x with n := findB labs L.target }
  | none => code
def ok2 (L : Ln) (labs : List Lb) (n : Nat) (code : List Ins) : Bool := decide (L.target = []) || (decide (0 ≤ findB labs L.target) && decide (n < code.length))
def asm2 : List (List Nat) → List Lb → Nat → List Ins → Option (List Ins)
  | [], _, _, code => some code
  | l :: ls, labs, n, code => match parseB l with
    | none => none
    | some L => if ok2 L labs n code then asm2 ls labs (next2 L n) (code2 L labs n code) else none
def asmB (ls : List (List Nat)) : Option (List Ins × List Lb) := match asm1 ls [] [] with
  | none => none
  | some (c, l) => match asm2 ls l 0 c with
    | none => none
    | some c' => some (c', l)
theorem asm1_step {ls : List (List Nat)} {k : Nat} {code : List Ins} {labs : List Lb} {r : List Ins × List Lb} (hk : k < ls.length) (h : asm1 (ls.drop k) code labs = some r) :
    ∃ l L, ls[k]? = some l ∧ parseB l = some L ∧ ok1 L code labs = true ∧ asm1 (ls.drop (k + 1)) (code1 L code) (lab1 L code labs) = some r := by
  rw [List.drop_eq_getElem_cons hk, asm1] at h
  split at h
  · cases h
  · rename_i L hL
    split at h
    · rename_i ho
      exact ⟨ls[k], L, List.getElem?_eq_getElem hk, hL, ho, h⟩
    · cases h
theorem asm2_step {ls : List (List Nat)} {k n : Nat} {code : List Ins} {labs : List Lb} {r : List Ins} (hk : k < ls.length) (h : asm2 (ls.drop k) labs n code = some r) :
    ∃ l L, ls[k]? = some l ∧ parseB l = some L ∧ ok2 L labs n code = true ∧ asm2 (ls.drop (k + 1)) labs (next2 L n) (code2 L labs n code) = some r := by
  rw [List.drop_eq_getElem_cons hk, asm2] at h
  split at h
  · cases h
  · rename_i L hL
    split at h
    · rename_i ho
      exact ⟨ls[k], L, List.getElem?_eq_getElem hk, hL, ho, h⟩
    · cases h
theorem flds_target {hs : List Nat} {ts : List (List Nat)} {L R : Ln} (h : fldsB hs ts L = some R) (P : Nat → Prop) (ht : ∀ t ∈ ts, ∀ x ∈ t, P x) (hL : ∀ x ∈ L.target, P x) : (∀ x ∈ R.target, P x) ∧ R.label = L.label := by
  induction hs generalizing ts L with
  | nil => rw [fldsB] at h; obtain rfl := Option.some.inj h; exact ⟨hL, rfl⟩
  | cons a hs ih =>
    obtain ⟨t, ts', L', rfl, hf, h'⟩ := flds_step h
    have hL' : (∀ x ∈ L'.target, P x) ∧ L'.label = L.label := by
      rcases fld_cases hf with ⟨_, _, rfl⟩ | ⟨_, _, rfl⟩ | ⟨_, _, rfl⟩ | ⟨_, _, rfl⟩ | ⟨_, _, rfl⟩
      · exact ⟨hL, rfl⟩
      · exact ⟨hL, rfl⟩
      · exact ⟨hL, rfl⟩
      · exact ⟨hL, rfl⟩
      · exact ⟨ht t (by simp), rfl⟩
    obtain ⟨h1, h2⟩ := ih h' (fun t' ht' => ht t' (by simp [ht'])) hL'.1
    exact ⟨h1, h2.trans hL'.2⟩
theorem trim_sub (l : List Nat) : ∀ x ∈ trimR (trimL l), x ∈ l := by
  intro x hx
  have h1 : x ∈ trimL l := by
    have := List.mem_reverse.1 hx
    exact List.mem_reverse.1 ((List.dropWhile_sublist _).mem this)
  exact (List.dropWhile_sublist _).mem h1
theorem parse_bytes {l : List Nat} {L : Ln} (h : parseB l = some L) (hl : ∀ x ∈ l, x < 256) : (∀ x ∈ L.label, x < 256) ∧ (∀ x ∈ L.target, x < 256) := by
  unfold parseB at h
  have hm : ∀ x ∈ trimR (trimL l), x < 256 := fun x hx => hl x (trim_sub l x hx)
  generalize trimR (trimL l) = m at h hm
  have nilc : (∀ x ∈ Ln.nil.label, x < 256) ∧ (∀ x ∈ Ln.nil.target, x < 256) := ⟨fun x hx => (by cases hx), fun x hx => (by cases hx)⟩
  cases m with
  | nil => obtain rfl := Option.some.inj h; exact nilc
  | cons y m =>
    rw [line_of (m := m) rfl] at h
    split at h
    · obtain rfl := Option.some.inj h; exact nilc
    · split at h
      · split at h
        · obtain rfl := Option.some.inj h
          exact ⟨fun x hx => hm x ((List.dropLast_sublist _).mem hx), nilc.2⟩
        · cases h
      · unfold insB at h
        split at h
        · cases h
        · split at h
          · cases h
          · rename_i L' hL'
            split at h
            · cases h
            · obtain rfl := Option.some.inj h
              obtain ⟨h1, h2⟩ := flds_target hL' (· < 256) (fun t ht x hx => hm x (spl_sub 32 _ t (List.mem_of_mem_tail ht) x hx)) nilc.2
              exact ⟨by rw [h2]; exact nilc.1, h1⟩
theorem parse_lab {l : List Nat} {L : Ln} (h : parseB l = some L) (hl : L.label ≠ []) : L.op = 0 := by
  unfold parseB at h
  generalize trimR (trimL l) = m at h
  cases m with
  | nil => obtain rfl := Option.some.inj h; rfl
  | cons y m =>
    rw [line_of (m := m) rfl] at h
    split at h
    · obtain rfl := Option.some.inj h; rfl
    · split at h
      · split at h
        · obtain rfl := Option.some.inj h; rfl
        · cases h
      · unfold insB at h
        split at h
        · cases h
        · split at h
          · cases h
          · rename_i L' hL'
            split at h
            · cases h
            · obtain rfl := Option.some.inj h
              exact absurd (flds_target hL' (fun _ => True) (fun _ _ _ _ => trivial) (fun _ _ => trivial)).2 hl
theorem flat_set {α : Type} {enc : α → List Value} {sz : Nat} (hl : ∀ x, (enc x).length = sz) (xs : List α) (n j : Nat) (x y : α) (u : Value) (hn : xs[n]? = some x) (hj : j < sz) (he : (enc x).set j u = enc y) :
    (xs.flatMap enc).set (n * sz + j) u = (xs.set n y).flatMap enc := by
  induction xs generalizing n with
  | nil => cases hn
  | cons a xs ih =>
    cases n with
    | zero =>
      obtain rfl : a = x := by simpa using hn
      rw [List.flatMap_cons, Nat.zero_mul, Nat.zero_add, List.set_append_left _ _ (by rw [hl]; exact hj), he]
      simp
    | succ n =>
      rw [List.flatMap_cons, List.set_append_right _ _ (by rw [hl, Nat.succ_mul]; omega), hl, show (n + 1) * sz + j - sz = n * sz + j by rw [Nat.succ_mul]; omega, ih n (by simpa using hn)]
      simp
end Go.Proofs.Ytegjkheecbmioaa
