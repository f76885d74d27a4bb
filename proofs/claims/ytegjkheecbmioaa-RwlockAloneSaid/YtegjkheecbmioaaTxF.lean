/- The plain law of the reference's Parse. -/
import Derived.Test.YtegjkheecbmioaaTxE
namespace Go.Proofs.Ytegjkheecbmioaa
open Go.RowKit
set_option linter.unusedVariables false
set_option linter.unusedSimpArgs false

structure Ln where
  label : List Nat
  op : Int
  a : Int
  b : Int
  c : Int
  n : Int
  target : List Nat
deriving DecidableEq
def Ln.nil : Ln := ⟨[], 0, 0, 0, 0, 0, []⟩
def Ln.cells (L : Ln) : List Value := [.string (bs L.label), .int .i64 L.op, .int .i64 L.a, .int .i64 L.b, .int .i64 L.c, .int .i64 L.n, .string (bs L.target)]
def Ln.val (L : Ln) : Value := .agg #[.string (bs L.label), .int .i64 L.op, .int .i64 L.a, .int .i64 L.b, .int .i64 L.c, .int .i64 L.n, .string (bs L.target)]
def wsB (x : Nat) : Bool := x == 32 || x == 9
def trimL (l : List Nat) : List Nat := l.dropWhile wsB
def trimR (l : List Nat) : List Nat := (l.reverse.dropWhile wsB).reverse
theorem trimL_step {l : List Nat} {x : Nat} (h : l[0]? = some x) (hx : wsB x = true) : trimL (l.drop 1) = trimL l := by
  cases l with
  | nil => cases h
  | cons y l => obtain rfl : y = x := by simpa using h
                simp [trimL, hx]
theorem trimL_stop {l : List Nat} (h : ∀ x, l[0]? = some x → wsB x = false) : trimL l = l := by
  cases l with
  | nil => rfl
  | cons y l => simp [trimL, h y rfl]
theorem trimR_step {l : List Nat} {x : Nat} (h : l[l.length - 1]? = some x) (hx : wsB x = true) : trimR (l.take (l.length - 1)) = trimR l := by
  rcases List.eq_nil_or_concat l with rfl | ⟨m, y, rfl⟩
  · rfl
  · simp at h
    subst h
    simp [trimR, hx]
theorem trimR_stop {l : List Nat} (h : ∀ x, l[l.length - 1]? = some x → wsB x = false) : trimR l = l := by
  rcases List.eq_nil_or_concat l with rfl | ⟨m, y, rfl⟩
  · rfl
  · have := h y (by simp)
    simp [trimR, this]
def fldB (h : Nat) (t : List Nat) (L : Ln) : Option Ln :=
  if h = 65 then (if 0 ≤ regB t then some { L with a := regB t } else none)
  else if h = 66 then (if 0 ≤ regB t then some { L with b := regB t } else none)
  else if h = 67 then (if 0 ≤ regB t then some { L with c := regB t } else none)
  else if h = 78 then (if (numB t).2 then some { L with n := (numB t).1 } else none)
  else if h = 84 then (if nameB t then some { L with target := t } else none)
  else none
def fldsB : List Nat → List (List Nat) → Ln → Option Ln
  | [], _, L => some L
  | _ :: _, [], _ => none
  | h :: hs, t :: ts, L => match fldB h t L with
    | some L' => fldsB hs ts L'
    | none => none
def matchB (toks : List (List Nat)) (k : Nat) : Bool := decide ((splitB (wordsT.getD k [])).1 = toks.headD []) && decide ((splitB (wordsT.getD k [])).2.length = toks.length - 1)
def insB (toks : List (List Nat)) : Option Ln := match (List.range 22).find? (matchB toks) with
  | none => none
  | some k => match fldsB (splitB (wordsT.getD k [])).2 toks.tail { Ln.nil with op := (k : Int) + 1 } with
    | none => none
    | some L => if L.op = 7 ∧ 13 < L.a then none else some L
def lineB (m : List Nat) : Option Ln := match m with
  | [] => some Ln.nil
  | x :: _ => if x = 59 then some Ln.nil
    else if m.getLastD 0 = 58 then (if nameB m.dropLast then some { Ln.nil with label := m.dropLast } else none)
    else insB (spl 32 m)
def parseB (l : List Nat) : Option Ln := lineB (trimR (trimL l))
theorem spl_ne (c : Nat) (l : List Nat) : spl c l ≠ [] := by
  cases l with
  | nil => simp [spl]
  | cons x l => rw [spl]; split
                · simp
                · split <;> simp
theorem find_range {p : Nat → Bool} {n k : Nat} (h : (List.range n).find? p = some k) : k < n ∧ p k = true ∧ ∀ j, j < k → p j = false := by
  rw [List.find?_eq_some_iff_getElem] at h
  obtain ⟨hp, i, hi, e, hall⟩ := h
  simp at e
  subst e
  refine ⟨by simpa using hi, hp, fun j hj => ?_⟩
  have := hall j hj
  simpa using this
theorem cell_set_ne (w : World) (a p : Addr) (u : Value) (h : a.block ≠ p.block) : (w.setCell p u).cell? a = w.cell? a := World.cell?_of_block (Below.heap_setCell w p u _ h)
/-- A block of the call's own, cell by cell. -/
structure Bx (o T : Nat) (cs : List Value) (w : World) : Prop where
  ty : IsT o T w
  cell : ∀ i v, cs[i]? = some v → w.cell? ⟨o, i, none⟩ = some v
theorem Bx.new (w : World) (cs : List Value) (T : Nat) : Bx w.heap.size T cs (w.alloc (.cells cs.toArray T)) := ⟨IsT.new _ _ _, fun i v h => box_cell w cs T h⟩
theorem Bx.only {o T : Nat} {cs : List Value} {w w' : World} {S : Nat → Prop} (h : Bx o T cs w) (hO : Only S w w') (hs : ¬ S o) : Bx o T cs w' := ⟨h.ty.keep (hO.block o h.ty.lt hs), fun i v hv => hO.cell (h.cell i v hv) hs⟩
theorem Bx.below {o T : Nat} {cs : List Value} {w w' : World} (h : Bx o T cs w) (hb : Below w.heap.size w w') : Bx o T cs w' := h.only (S := fun _ => False) (Only.of_below hb) id
theorem Bx.set {o T : Nat} {cs : List Value} {w : World} (h : Bx o T cs w) (i : Nat) (u : Value) : Bx o T (cs.set i u) (w.setCell ⟨o, i, none⟩ u) := by
  refine ⟨h.ty.set _ _, fun j v hv => ?_⟩
  by_cases e : j = i
  · subst e
    rw [List.getElem?_set] at hv
    simp only [if_true] at hv
    split at hv
    · rename_i hl
      obtain rfl := Option.some.inj hv
      exact cell_set_same (h.cell j _ (List.getElem?_eq_getElem hl)) rfl
    · cases hv
  · rw [List.getElem?_set_ne (Ne.symm e)] at hv
    exact cell_set_off (h.cell j v hv) e
theorem Bx.other {o T g i : Nat} {cs : List Value} {w : World} {u : Value} (h : Bx o T cs w) (hn : o ≠ g) : Bx o T cs (w.setCell ⟨g, i, none⟩ u) := h.only (S := (· = g)) (Only.set (S := (· = g)) (Only.refl _ _) (p := ⟨g, i, none⟩) (.inl rfl) u) hn
theorem bs_size (l : List Nat) : (bs l).size = l.length := by simp [bs, ByteArray.size]
theorem words_get {k : Nat} {t : ByteArray} (h : wordsS[k]? = some t) : t = bs (wordsT.getD k []) ∧ wordsT.getD k [] ∈ wordsT := by
  rw [wordsS, List.getElem?_map] at h
  obtain ⟨x, hx, rfl⟩ := Option.map_eq_some_iff.1 h
  rw [List.getD_eq_getElem?_getD, hx]
  exact ⟨rfl, List.mem_of_getElem? hx⟩
theorem wordsP_ok : ∀ t ∈ wordsT, t.length ≤ 16 ∧ (∀ x ∈ (splitB t).1, x < 256) ∧ (∀ x ∈ (splitB t).2, x < 256) := by decide
theorem words_split {k : Nat} {t : ByteArray} (h : wordsS[k]? = some t) (w : World) : Calls Try.prog 52 #[.string t] w
    fun e w' => e = .returned (.tuple #[.string (bs (splitB (wordsT.getD k [])).1), .string (bs (splitB (wordsT.getD k [])).2)]) ∧ Below w.heap.size w w' := by
  obtain ⟨rfl, hm⟩ := words_get h
  have h1 := wordsT_ok.1 _ hm
  have hn := nb_bs h1.2
  have hl := (wordsP_ok _ hm).1
  have := split_calls (bs (wordsT.getD k [])) w (by unfold maxLen; rw [bs_size]; omega) (by rw [hn]; exact h1.1)
  rwa [hn] at this
theorem bs_inj {a b : List Nat} (ha : ∀ x ∈ a, x < 256) (hb : ∀ x ∈ b, x < 256) : (bs a).toList = (bs b).toList ↔ a = b := by
  constructor
  · intro h
    have h2 : ((bs a).toList == (bs b).toList) = true := by simpa using h
    rw [str_eq, nb_bs ha, nb_bs hb] at h2
    simpa using h2
  · rintro rfl; rfl
theorem spl_sub (c : Nat) (l : List Nat) : ∀ t ∈ spl c l, ∀ x ∈ t, x ∈ l := by
  induction l with
  | nil => intro t ht x hx; simp [spl] at ht; subst ht; exact hx
  | cons y l ih =>
    intro t ht x hx
    rw [spl] at ht
    split at ht
    · rcases List.mem_cons.1 ht with rfl | ht
      · cases hx
      · exact List.mem_cons_of_mem _ (ih t ht x hx)
    · split at ht
      · rename_i a b e
        rcases List.mem_cons.1 ht with rfl | ht
        · rcases List.mem_cons.1 hx with rfl | hx
          · exact List.mem_cons_self
          · exact List.mem_cons_of_mem _ (ih a (by rw [e]; exact List.mem_cons_self) x hx)
        · exact List.mem_cons_of_mem _ (ih t (by rw [e]; exact List.mem_cons_of_mem _ ht) x hx)
      · simp at ht; subst ht
        rw [List.mem_singleton.1 hx]
        exact List.mem_cons_self
theorem flds_step {h : Nat} {hs : List Nat} {ts : List (List Nat)} {L R : Ln} (e : fldsB (h :: hs) ts L = some R) : ∃ t ts' L', ts = t :: ts' ∧ fldB h t L = some L' ∧ fldsB hs ts' L' = some R := by
  cases ts with
  | nil => cases e
  | cons t ts' =>
    rw [fldsB] at e
    split at e
    · rename_i L' hL; exact ⟨t, ts', L', rfl, hL, e⟩
    · cases e
theorem drop_get {α : Type} {l : List α} {q : Nat} {x : α} {t : List α} (h : l.drop q = x :: t) : l[q]? = some x ∧ l.drop (q + 1) = t := by
  constructor
  · have := congrArg (fun l => l[0]?) h
    simpa using this
  · have := congrArg (List.drop 1) h
    rw [List.drop_drop] at this
    simpa using this
theorem flds_at {P2 : List Nat} {toks : List (List Nat)} {q : Nat} {Lq L : Ln} (hq : q < P2.length) (h : fldsB (P2.drop q) (toks.drop (q + 1)) Lq = some L) :
    ∃ hh tk L', P2[q]? = some hh ∧ toks[q + 1]? = some tk ∧ fldB hh tk Lq = some L' ∧ fldsB (P2.drop (q + 1)) (toks.drop (q + 1 + 1)) L' = some L := by
  obtain ⟨hh, hhs, hd⟩ : ∃ hh hhs, P2.drop q = hh :: hhs := by
    cases hdr : P2.drop q with
    | nil =>
      have := congrArg List.length hdr
      rw [List.length_drop] at this
      simp at this; omega
    | cons a b => exact ⟨a, b, rfl⟩
  rw [hd] at h
  obtain ⟨tk, tks, L', htk, hfb, hF3⟩ := flds_step h
  obtain ⟨a1, a2⟩ := drop_get hd
  obtain ⟨b1, b2⟩ := drop_get htk
  exact ⟨hh, tk, L', a1, b1, hfb, by rw [a2, b2]; exact hF3⟩
theorem wordsT_mem {k : Nat} (h : k < 22) : wordsT.getD k [] ∈ wordsT := by
  rw [List.getD_eq_getElem?_getD, List.getElem?_eq_getElem (by have := wordsT_ok.2; omega)]
  exact List.getElem_mem _
theorem spl_len (c : Nat) (l : List Nat) : ∀ t ∈ spl c l, t.length ≤ l.length := by
  induction l with
  | nil => intro t ht; simp [spl] at ht; subst ht; simp
  | cons y l ih =>
    intro t ht
    rw [spl] at ht
    split at ht
    · rcases List.mem_cons.1 ht with rfl | ht
      · simp
      · have := ih t ht; simp; omega
    · split at ht
      · rename_i a b e
        rcases List.mem_cons.1 ht with rfl | ht
        · have := ih a (by rw [e]; exact List.mem_cons_self); simp; omega
        · have := ih t (by rw [e]; exact List.mem_cons_of_mem _ ht); simp; omega
      · simp at ht; subst ht; simp
theorem fld_cases {h : Nat} {t : List Nat} {L R : Ln} (e : fldB h t L = some R) :
    (h = 65 ∧ 0 ≤ regB t ∧ R = { L with a := regB t }) ∨ (h = 66 ∧ 0 ≤ regB t ∧ R = { L with b := regB t }) ∨ (h = 67 ∧ 0 ≤ regB t ∧ R = { L with c := regB t }) ∨
    (h = 78 ∧ (numB t).2 = true ∧ R = { L with n := (numB t).1 }) ∨ (h = 84 ∧ nameB t = true ∧ R = { L with target := t }) := by
  unfold fldB at e
  repeat' split at e
  all_goals first | (cases e; done) | (obtain rfl := Option.some.inj e; simp_all)
end Go.Proofs.Ytegjkheecbmioaa
