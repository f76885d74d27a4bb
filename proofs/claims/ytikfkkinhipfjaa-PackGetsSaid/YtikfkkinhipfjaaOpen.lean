/- An argument that is a script, opened: from the reading of it to the plain data. -/
import Derived.Test.YtikfkkinhipfjaaBase
import Derived.Deep.Slices
import Derived.OpenShut
import Derived.ChangeArms
namespace Go.Proofs.Ytikfkkinhipfjaa
open Go.RowKit Go.ChangeShapes
set_option linter.unusedVariables false
set_option linter.unusedSimpArgs false

section
variable {H : Type} {enc : TypeId × Value → H} {W : World}
/-- A type's cells, where they can be read, are a value of the kind. -/
structure Opens {α : Type} (enc : TypeId × Value → H) (d : Kd α) (e : TypeId) (W : World) : Prop where
  sz : Try.prog.cellsOf e = d.sz
  rd : ∀ n cs y, DataW.trod enc Try.prog W 0 (fun _ => true) true n e cs = some y → ∃ x, d.K (fun _ => True) W x cs
theorem open_row {α : Type} {d : Kd α} {t e : TypeId} {n : Nat} {cs : List Value} {x : DataW H × List MemPlace} (hu : Try.prog.underlying t = some (.slice e)) (ho : Opens enc d e W)
    (h : DataW.trod enc Try.prog W 0 (fun _ => true) true n t cs = some x) : ∃ A xs c, cs = [.slice A (xs : List α).length c] ∧ xs.length ≤ c ∧ d.C (fun _ => True) W A xs := by
  rcases Deep.open_slice hu h with ⟨rfl, _⟩ | ⟨a, len, cap, m, k, D, Pl, rfl, _, hl, hm, hmm, _, hall⟩
  · exact ⟨none, [], 0, rfl, Nat.le_refl _, Kd.C.nil _ _ _ _⟩
  · have hlm : len ≤ m := by rw [hmm]; split <;> omega
    have hx : ∀ i : Fin len, ∃ x, ∃ c, d.K (fun _ => True) W x c ∧ ∀ j u, c[j]? = some u → W.cell? (a.add (i.1 * d.sz + j)) = some u := fun i => by
      obtain ⟨cs', h1, h2⟩ := hall i.1 (by have := i.2; omega)
      obtain ⟨x, hx⟩ := ho.rd _ _ _ h2
      refine ⟨x, cs', hx, fun j u hu => ?_⟩
      obtain ⟨_, hc, hcell⟩ := World.cells?_some h1
      have hj : j < cs'.length := (List.getElem?_eq_some_iff.1 hu).1
      have := hcell j (by omega)
      rw [hu, ho.sz] at this
      have ea : (a.add (i.1 * d.sz)).add j = a.add (i.1 * d.sz + j) := by
        by_cases hj0 : j = 0
        · subst hj0; simp [Addr.add]
        · rw [add_field _ _ _ (by omega)]
          exact if_neg hj0
      rw [← ea]
      exact this
    refine ⟨some a, List.ofFn fun i => Classical.choose (hx i), cap, by simp, by simpa using hl, by simp; unfold maxLen at hm; omega, fun _ => ⟨a, rfl, trivial, fun j p hp => ?_⟩⟩
    rw [List.getElem?_ofFn] at hp
    split at hp
    · obtain rfl := Option.some.inj hp
      exact Classical.choose_spec (hx ⟨j, by assumption⟩)
    · cases hp
theorem opens_slice {α : Type} {d : Kd α} {t e : TypeId} (hu : Try.prog.underlying t = some (.slice e)) (ho : Opens enc d e W) (h1 : Try.prog.cellsOf t = 1) : Opens enc (Kd.slice d) t W :=
  ⟨h1, fun n cs y h => by
    obtain ⟨A, xs, c, h1, h2, h3⟩ := open_row hu ho h
    exact ⟨xs, A, c, h1, h2, h3⟩⟩
/-- A struct's field that is read. -/
theorem field_at {t : TypeId} {fs : Array Field} {n : Nat} {cs : List Value} {x : DataW H × List MemPlace} (ht : Try.prog.underlying t = some (.struct fs)) (h : DataW.trod enc Try.prog W 0 (fun _ => true) true n t cs = some x) :
    cs.length = Try.prog.cellsOf t ∧ ∀ (i : Nat) (f : Field), fs[i]? = some f → ∃ m y, DataW.trod enc Try.prog W 0 (fun _ => true) true m f.type ((cs.drop f.offset).take (Try.prog.cellsOf f.type)) = some y := by
  obtain ⟨xs, m, _, _, hl, hlen, hf⟩ := DataW.trod_struct ht h
  refine ⟨hl, fun i f hi => ?_⟩
  have hi' : i < fs.size := (Array.getElem?_eq_some_iff.1 hi).1
  exact ⟨m, xs[i]'(by omega), by rw [hf i f hi, List.getElem?_eq_getElem]⟩
theorem int_at {t : TypeId} {k : IntKind} {n j : Nat} {cs : List Value} {y : DataW H × List MemPlace} (ht : Try.prog.underlying t = some (.int k)) (hc : Try.prog.cellsOf t = 1) (h : DataW.trod enc Try.prog W 0 (fun _ => true) true n t ((cs.drop j).take (Try.prog.cellsOf t)) = some y) : ∃ v, cs[j]? = some (.int k v) := by
  obtain ⟨v, h1, _⟩ := DataW.trod_int ht h
  rw [hc] at h1
  refine ⟨v, ?_⟩
  have := congrArg (·[0]?) h1
  simpa [List.getElem?_take, List.getElem?_drop] using this
theorem bool_at {t : TypeId} {n j : Nat} {cs : List Value} {y : DataW H × List MemPlace} (ht : Try.prog.underlying t = some .bool) (hc : Try.prog.cellsOf t = 1) (h : DataW.trod enc Try.prog W 0 (fun _ => true) true n t ((cs.drop j).take (Try.prog.cellsOf t)) = some y) : ∃ v, cs[j]? = some (.bool v) := by
  obtain ⟨v, h1, _⟩ := DataW.trod_bool ht h
  rw [hc] at h1
  refine ⟨v, ?_⟩
  have := congrArg (·[0]?) h1
  simpa [List.getElem?_take, List.getElem?_drop] using this
theorem slice_at {α : Type} {d : Kd α} {t e : TypeId} {n j : Nat} {cs : List Value} {y : DataW H × List MemPlace} (hu : Try.prog.underlying t = some (.slice e)) (ho : Opens enc d e W) (hc : Try.prog.cellsOf t = 1)
    (h : DataW.trod enc Try.prog W 0 (fun _ => true) true n t ((cs.drop j).take (Try.prog.cellsOf t)) = some y) : ∃ A xs c, cs[j]? = some (.slice A (xs : List α).length c) ∧ xs.length ≤ c ∧ d.C (fun _ => True) W A xs := by
  obtain ⟨A, xs, c, h1, h2, h3⟩ := open_row hu ho h
  rw [hc] at h1
  refine ⟨A, xs, c, ?_, h2, h3⟩
  have := congrArg (·[0]?) h1
  simpa [List.getElem?_take, List.getElem?_drop] using this
theorem cInt : Try.prog.cellsOf 3 = 1 := by kernel_rfl
theorem cI64 : Try.prog.cellsOf 2 = 1 := by kernel_rfl
theorem cBool : Try.prog.cellsOf 4 = 1 := by kernel_rfl
theorem opens_ob : Opens enc kOb 48 W where
  sz := by kernel_rfl
  rd := fun n cs y h => by
    obtain ⟨hl, hf⟩ := field_at Try.underlying48 h
    rw [show Try.prog.cellsOf 48 = 3 from by kernel_rfl] at hl
    obtain ⟨_, _, g0⟩ := hf 0 _ rfl
    obtain ⟨_, _, g1⟩ := hf 1 _ rfl
    obtain ⟨_, _, g2⟩ := hf 2 _ rfl
    obtain ⟨v0, e0⟩ := int_at Try.underlying3 cInt g0
    obtain ⟨v1, e1⟩ := bool_at Try.underlying4 cBool g1
    obtain ⟨v2, e2⟩ := int_at Try.underlying3 cInt g2
    refine ⟨⟨v0, v1, v2⟩, ?_⟩
    match cs, hl with
    | [c0, c1, c2], _ =>
      simp at e0 e1 e2
      subst e0 e1 e2
      rfl
theorem opens_cl : Opens enc kCl 54 W where
  sz := by kernel_rfl
  rd := fun n cs y h => by
    obtain ⟨hl, hf⟩ := field_at Try.underlying54 h
    rw [show Try.prog.cellsOf 54 = 5 from by kernel_rfl] at hl
    obtain ⟨_, _, g0⟩ := hf 0 _ rfl
    obtain ⟨_, _, g1⟩ := hf 1 _ rfl
    obtain ⟨_, _, g2⟩ := hf 2 _ rfl
    obtain ⟨_, _, g3⟩ := hf 3 _ rfl
    obtain ⟨_, _, g4⟩ := hf 4 _ rfl
    obtain ⟨v0, e0⟩ := int_at Try.underlying3 cInt g0
    obtain ⟨v1, e1⟩ := int_at Try.underlying3 cInt g1
    obtain ⟨v2, e2⟩ := int_at Try.underlying3 cInt g2
    obtain ⟨v3, e3⟩ := int_at Try.underlying2 cI64 g3
    obtain ⟨v4, e4⟩ := bool_at Try.underlying4 cBool g4
    refine ⟨⟨v0, v1, v2, v3, v4⟩, ?_⟩
    match cs, hl with
    | [c0, c1, c2, c3, c4], _ =>
      simp at e0 e1 e2 e3 e4
      subst e0 e1 e2 e3 e4
      rfl
theorem opens_pk : Opens enc kPk 56 W where
  sz := by kernel_rfl
  rd := fun n cs y h => by
    obtain ⟨hl, hf⟩ := field_at Try.underlying56 h
    rw [show Try.prog.cellsOf 56 = 2 from by kernel_rfl] at hl
    obtain ⟨_, _, g0⟩ := hf 0 _ rfl
    obtain ⟨_, _, g1⟩ := hf 1 _ rfl
    obtain ⟨v0, e0⟩ := int_at Try.underlying3 cInt g0
    obtain ⟨v1, e1⟩ := int_at Try.underlying2 cI64 g1
    refine ⟨⟨v0, v1⟩, ?_⟩
    match cs, hl with
    | [c0, c1], _ =>
      simp at e0 e1
      subst e0 e1
      rfl
/-- A script's argument. -/
def IsScr (W : World) (v : Value) : Prop := ∃ s A0 A1 A2 c0 c1 c2, v = scrV s A0 A1 A2 c0 c1 c2 ∧ ScrAt (fun _ => True) W s A0 A1 A2 c0 c1 c2
theorem open_scr {r : Reach} {b0 : Nat} {v : Value} {d : DataW H} {p : List MemPlace} (hv : Value.okWide Try.prog W r b0 26 v)
    (h : DataW.Trod enc Try.prog W 0 (fun _ => true) true 26 v d p) : IsScr W v := by
  unfold Value.okWide at hv
  rw [Try.underlying26] at hv
  obtain ⟨cs, rfl, hsz, _⟩ := hv
  obtain ⟨n, h⟩ := h
  obtain ⟨hl, hf⟩ := field_at Try.underlying26 h
  rw [show Try.prog.cellsOf 26 = 3 from by kernel_rfl] at hsz
  obtain ⟨_, _, g0⟩ := hf 0 _ rfl
  obtain ⟨_, _, g1⟩ := hf 1 _ rfl
  obtain ⟨_, _, g2⟩ := hf 2 _ rfl
  obtain ⟨A0, os, c0, e0, l0, k0⟩ := slice_at Try.underlying22 opens_ob (by kernel_rfl) g0
  obtain ⟨A1, ps, c1, e1, l1, k1⟩ := slice_at Try.underlying23 (opens_slice Try.underlying49 opens_cl (by kernel_rfl)) (by kernel_rfl) g1
  obtain ⟨A2, ks, c2, e2, l2, k2⟩ := slice_at Try.underlying24 opens_pk (by kernel_rfl) g2
  refine ⟨⟨os, ps, ks⟩, A0, A1, A2, c0, c1, c2, ?_, ⟨k0, l0, k1, l1, k2, l2⟩⟩
  unfold scrV
  congr 1
  apply Array.ext'
  match h9 : cs.toList with
  | [x0, x1, x2] =>
    have : (Value.agg cs).cells.toList = [x0, x1, x2] := h9
    rw [this] at e0 e1 e2
    simp at e0 e1 e2
    subst e0 e1 e2
    rfl
  | [] | [_] | [_, _] | _ :: _ :: _ :: _ :: _ =>
    have := congrArg List.length h9
    rw [Array.length_toList] at this
    simp only [List.length_cons, List.length_nil] at this
    omega
end
end Go.Proofs.Ytikfkkinhipfjaa
