/- Numbers of bytes, by the reference: the plain law. Of no program. -/
import Derived.Test.YtikfkkinhipfjaaPk
namespace Go.Proofs.Ytikfkkinhipfjaa
set_option linter.unusedVariables false
set_option linter.unusedSimpArgs false

/-- The bytes are numbers. -/
def Dec (l : List Nat) : Prop := ∃ ns : List Int, l = numsB ns ∧ ∀ n ∈ ns, (Lit.int .i64 n).wf = true
def decN : List Nat → Nat
  | [] => 0
  | x :: t => x % 128 + 128 * decN t
theorem decN_leb : ∀ (n v : Nat), v ≤ n → decN (leb v) = v
  | n, v, h => by
    by_cases h1 : v < 128
    · rw [leb_lt h1]; simp [decN]; omega
    · rw [leb_ge (by omega)]
      match n, h with
      | 0, h => omega
      | n + 1, h =>
        rw [decN, decN_leb n (v / 128) (by omega)]
        omega
theorem leb_shape : ∀ (n v : Nat), v ≤ n → ∃ k, (leb v).length = k + 1 ∧ (∀ j, j < k → ∃ x, (leb v)[j]? = some x ∧ 127 < x) ∧ ∃ x, (leb v)[k]? = some x ∧ x ≤ 127
  | n, v, h => by
    by_cases h1 : v < 128
    · rw [leb_lt h1]
      exact ⟨0, rfl, fun j hj => by omega, v, rfl, by omega⟩
    · rw [leb_ge (by omega)]
      match n, h with
      | 0, h => omega
      | n + 1, h =>
        obtain ⟨k, h2, h3, x, h4, h5⟩ := leb_shape n (v / 128) (by omega)
        refine ⟨k + 1, by simp [h2], fun j hj => ?_, x, by simpa using h4, h5⟩
        cases j with
        | zero => exact ⟨_, rfl, by omega⟩
        | succ j => simpa using h3 j (by omega)
theorem Dec.head {r : List Nat} (h : Dec r) (hr : r ≠ []) : ∃ m r', r = numB m ++ r' ∧ (Lit.int .i64 m).wf = true := by
  obtain ⟨ns, rfl, hw⟩ := h
  cases ns with
  | nil => exact absurd rfl hr
  | cons m ns => exact ⟨m, numsB ns, rfl, hw m (by simp)⟩
theorem numB_cut {m m' : Int} {r r' : List Nat} (hm : (Lit.int .i64 m).wf = true) (hm' : (Lit.int .i64 m').wf = true) (h : numB m ++ r = numB m' ++ r') : m = m' ∧ r = r' := by
  have h1 := rdNum_put r hm
  rw [h, rdNum_put r' hm'] at h1
  simp only [Prod.mk.injEq, Option.some.injEq] at h1
  exact ⟨h1.1.symm, h1.2.symm⟩
theorem numB_ne (m : Int) : numB m ≠ [] := by
  obtain ⟨k, h, _⟩ := leb_shape _ (zig m) (Nat.le_refl _)
  intro e
  rw [numB] at e
  rw [e] at h
  simp at h
theorem Dec.tail {m : Int} {r : List Nat} (hm : (Lit.int .i64 m).wf = true) (h : Dec (numB m ++ r)) : Dec r := by
  obtain ⟨ns, h1, hw⟩ := h
  cases ns with
  | nil =>
    have := numB_ne m
    simp [numsB] at h1
    exact absurd h1.1 this
  | cons n ns =>
    have h1 : numB m ++ r = numB n ++ numsB ns := h1
    obtain ⟨rfl, rfl⟩ := numB_cut hm (hw n (by simp)) h1
    exact ⟨ns, rfl, fun x hx => hw x (by simp [hx])⟩
theorem Dec.drop : ∀ {ns : List Int} {r : List Nat}, (∀ n ∈ ns, (Lit.int .i64 n).wf = true) → Dec (numsB ns ++ r) → Dec r
  | [], r, _, h => h
  | n :: ns, r, hw, h => by
    have e : numsB (n :: ns) ++ r = numB n ++ (numsB ns ++ r) := by simp [numsB]
    rw [e] at h
    exact Dec.drop (fun x hx => hw x (by simp [hx])) (h.tail (hw n (by simp)))
theorem numsB_inj : ∀ {a b : List Int}, (∀ n ∈ a, (Lit.int .i64 n).wf = true) → (∀ n ∈ b, (Lit.int .i64 n).wf = true) → numsB a = numsB b → a = b
  | [], [], _, _, _ => rfl
  | [], m :: b, _, _, h => by
    have := numB_ne m
    simp [numsB] at h
    exact absurd h.1 this
  | m :: a, [], _, _, h => by
    have := numB_ne m
    simp [numsB] at h
    exact absurd h.1 this
  | m :: a, n :: b, ha, hb, h => by
    have h : numB m ++ numsB a = numB n ++ numsB b := h
    obtain ⟨rfl, h2⟩ := numB_cut (ha m (by simp)) (hb n (by simp)) h
    rw [numsB_inj (fun x hx => ha x (by simp [hx])) (fun x hx => hb x (by simp [hx])) h2]
/-- The first n bytes go on. -/
def Scan (r : List Nat) (n : Nat) : Prop := ∀ j, j < n → ∃ x, r[j]? = some x ∧ 127 < x
theorem Scan.more {r : List Nat} {n x : Nat} (h : Scan r n) (hx : r[n]? = some x) (h1 : 127 < x) : Scan r (n + 1) := fun j hj => by
  by_cases e : j = n
  · subst e; exact ⟨x, hx, h1⟩
  · exact h j (by omega)
theorem Scan.head {r r' : List Nat} {n : Nat} {m : Int} (h : Scan r n) (hm : (Lit.int .i64 m).wf = true) (e : r = numB m ++ r') : n < r.length ∧ n < 10 ∧ ∀ x, r[n]? = some x → x ≤ 127 → r.take (n + 1) = numB m := by
  obtain ⟨k, h1, h2, x, h3, h4⟩ := leb_shape _ (zig m) (Nat.le_refl _)
  have hl : (numB m).length ≤ 10 := by have := bounds_i64 hm; exact leb_len10 (zig_lt this.1 this.2)
  have e1 : (numB m).length = k + 1 := h1
  have ek : r[k]? = some x := by rw [e, List.getElem?_append_left (by omega)]; exact h3
  have hnk : n ≤ k := by
    rcases Nat.lt_or_ge k n with h5 | h5
    · obtain ⟨y, h6, h7⟩ := h k h5
      rw [ek] at h6
      cases h6
      omega
    · exact h5
  have hlen : r.length = k + 1 + r'.length := by rw [e, List.length_append, e1]
  refine ⟨by omega, by omega, fun y hy h5 => ?_⟩
  have : n = k := by
    rcases Nat.lt_or_ge n k with h6 | h6
    · obtain ⟨z, h7, h8⟩ := h2 n h6
      have : r[n]? = some z := by rw [e, List.getElem?_append_left (by omega)]; exact h7
      rw [hy] at this
      cases this
      omega
    · omega
  subst this
  rw [e, List.take_append_of_le_length (by omega), List.take_of_length_le (by omega)]
/-- What the bytes say. -/
def says (r : List Nat) (n : Nat) : Int := unzig (decN (r.take (n + 1)) % 18446744073709551616)
theorem says_wf (r : List Nat) (n : Nat) : (Lit.int .i64 (says r n)).wf = true := unzig_wf (Nat.mod_lt _ (by decide))
/-- No number: too long, or too many bytes. -/
theorem Scan.no {r : List Nat} {n : Nat} (h : Scan r n) (hr : r ≠ []) (h1 : r.length ≤ n ∨ 10 ≤ n) : ¬ Dec r := fun hd => by
  obtain ⟨m, r', e, hm⟩ := hd.head hr
  have := h.head hm e
  omega
theorem Scan.unlike {r : List Nat} {n x : Nat} (h : Scan r n) (hx : r[n]? = some x) (h1 : x ≤ 127) (hne : numB (says r n) ≠ r.take (n + 1)) : ¬ Dec r := fun hd => by
  obtain ⟨m, r', e, hm⟩ := hd.head (by rintro rfl; simp at hx)
  have h2 := (h.head hm e).2.2 x hx h1
  apply hne
  have hb := bounds_i64 hm
  have : decN (r.take (n + 1)) = zig m := by rw [h2]; exact decN_leb _ _ (Nat.le_refl _)
  unfold says
  rw [this, Nat.mod_eq_of_lt (zig_lt hb.1 hb.2), unzig_zig, h2]
/-- What is read so far. -/
structure Sofar (l : List Nat) (ns : List Int) (p : Nat) : Prop where
  e : l = numsB ns ++ l.drop p
  p : p = (numsB ns).length
  wf : ∀ n ∈ ns, (Lit.int .i64 n).wf = true
theorem Sofar.nil (l : List Nat) : Sofar l [] 0 := ⟨by simp [numsB], rfl, by simp⟩
theorem Sofar.le {l : List Nat} {ns : List Int} {p : Nat} (h : Sofar l ns p) : p ≤ l.length := by
  have := congrArg List.length h.e
  rw [List.length_append, List.length_drop] at this
  have := h.p
  omega
theorem Sofar.count {l : List Nat} {ns : List Int} {p : Nat} (h : Sofar l ns p) : ns.length ≤ p := by
  have h1 : ∀ ns : List Int, ns.length ≤ (numsB ns).length := by
    intro ns
    induction ns with
    | nil => simp
    | cons a ns ih =>
      have : 0 < (numB a).length := List.length_pos_iff.2 (numB_ne a)
      have e : numsB (a :: ns) = numB a ++ numsB ns := rfl
      rw [e, List.length_append, List.length_cons]
      omega
  rw [h.p]
  exact h1 ns
theorem Sofar.no {l : List Nat} {ns : List Int} {p : Nat} (h : Sofar l ns p) (h1 : ¬ Dec (l.drop p)) : ¬ Dec l := fun hd => by
  rw [h.e] at hd
  exact h1 (Dec.drop h.wf hd)
theorem Sofar.more {l : List Nat} {ns : List Int} {p n x : Nat} (h : Sofar l ns p) (hx : (l.drop p)[n]? = some x) (he : numB (says (l.drop p) n) = (l.drop p).take (n + 1)) : Sofar l (ns ++ [says (l.drop p) n]) (p + n + 1) := by
  have hn : n < (l.drop p).length := (List.getElem?_eq_some_iff.1 hx).1
  have e1 : numsB (ns ++ [says (l.drop p) n]) = numsB ns ++ (l.drop p).take (n + 1) := by simp [numsB, List.flatMap_append, he]
  have e2 : l.drop (p + n + 1) = (l.drop p).drop (n + 1) := by rw [List.drop_drop, Nat.add_assoc]
  refine ⟨?_, ?_, ?_⟩
  · rw [e1, e2, List.append_assoc, List.take_append_drop]
    exact h.e
  · rw [e1, List.length_append, ← h.p, List.length_take]
    omega
  · intro y hy
    rcases List.mem_append.1 hy with hy | hy
    · exact h.wf y hy
    · rw [List.mem_singleton.1 hy]; exact says_wf _ _
theorem Sofar.end {l : List Nat} {ns : List Int} (h : Sofar l ns l.length) : l = numsB ns := by
  have := h.e
  simpa using this
/-- Bytes from the back. -/
def tailN (r : List Nat) (n t : Nat) : Nat := decN ((r.take (n + 1)).drop (n + 1 - t)) % 18446744073709551616
theorem tailN_zero (r : List Nat) (n : Nat) (h : n < r.length) : tailN r n 0 = 0 := by
  unfold tailN
  rw [List.drop_of_length_le (by rw [List.length_take]; omega)]
  rfl
theorem tailN_more {r : List Nat} {n t x : Nat} (ht : t ≤ n) (hx : r[n - t]? = some x) : tailN r n (t + 1) = (tailN r n t * 128 % 18446744073709551616 + x % 128) % 18446744073709551616 := by
  unfold tailN
  have h1 : n - t < (r.take (n + 1)).length := by
    have := (List.getElem?_eq_some_iff.1 hx).1
    rw [List.length_take]; omega
  have h2 : (r.take (n + 1)).drop (n + 1 - (t + 1)) = x :: (r.take (n + 1)).drop (n + 1 - t) := by
    rw [show n + 1 - (t + 1) = n - t by omega, List.drop_eq_getElem_cons h1, show n - t + 1 = n + 1 - t by omega]
    congr 1
    rw [List.getElem_take]
    exact (List.getElem?_eq_some_iff.1 hx).2
  rw [h2, decN]
  generalize decN ((r.take (n + 1)).drop (n + 1 - t)) = d
  omega
theorem tailN_all (r : List Nat) (n : Nat) : says r n = unzig (tailN r n (n + 1)) := by
  unfold says tailN
  rw [show n + 1 - (n + 1) = 0 by omega, List.drop_zero]
theorem tailN_lt (r : List Nat) (n t : Nat) : tailN r n t < 18446744073709551616 := Nat.mod_lt _ (by decide)
end Go.Proofs.Ytikfkkinhipfjaa
