/- Arguments that are calls, or an object, opened. -/
import Derived.Test.YtegjkheecbmioaaPlA
import Derived.Deep.Slices
import Derived.OpenShut
import Derived.ChangeArms
namespace Go.Proofs.Ytegjkheecbmioaa
open Go.RowKit Go.ChangeShapes
set_option linter.unusedVariables false
set_option linter.unusedSimpArgs false

section
variable {H : Type} {enc : TypeId × Value → H} {W : World}
/-- A type's cells, where they can be read, are a value of the kind. -/
structure Opens {α : Type} (enc : TypeId × Value → H) (d : Kd α) (e : TypeId) (W : World) : Prop where
  sz : Try.prog.cellsOf e = d.sz
  rd : ∀ n cs y, DataW.trod enc Try.prog W 0 (fun _ => true) true n e cs = some y → ∃ x, d.K (fun _ => True) W x cs
theorem open_row {α : Type} {d : Kd α} {t e : TypeId} {n : Nat} {cs : List Value} {x : DataW H × List MemPlace} (hu : Try.prog.underlying t = some (.slice e)) (ho : Opens enc d e W)
    (h : DataW.trod enc Try.prog W 0 (fun _ => true) true n t cs = some x) : ∃ A xs c, cs = [.slice A (xs : List α).length c] ∧ xs.length ≤ c ∧ d.C (fun _ => True) W A xs := by
  rcases Deep.open_slice hu h with ⟨rfl, _⟩ | ⟨a, len, cap, m, k, D, Pl, rfl, _, hl, hm, hmm, _, hall⟩
  · exact ⟨none, [], 0, rfl, Nat.le_refl _, Kd.C.nil _ _ _ _⟩
  · have hlm : len ≤ m := by rw [hmm]; split <;> omega
    have hx : ∀ i : Fin len, ∃ x, ∃ c, d.K (fun _ => True) W x c ∧ ∀ j u, c[j]? = some u → W.cell? (a.add (i.1 * d.sz + j)) = some u := fun i => by
      obtain ⟨cs', h1, h2⟩ := hall i.1 (by have := i.2; omega)
      obtain ⟨x, hx⟩ := ho.rd _ _ _ h2
      refine ⟨x, cs', hx, fun j u hu => ?_⟩
      obtain ⟨_, hc, hcell⟩ := World.cells?_some h1
      have hj : j < cs'.length := (List.getElem?_eq_some_iff.1 hu).1
      have := hcell j (by omega)
      rw [hu, ho.sz] at this
      have ea : (a.add (i.1 * d.sz)).add j = a.add (i.1 * d.sz + j) := by
        by_cases hj0 : j = 0
        · subst hj0; simp [Addr.add]
        · rw [add_field _ _ _ (by omega)]
          exact if_neg hj0
      rw [← ea]
      exact this
    refine ⟨some a, List.ofFn fun i => Classical.choose (hx i), cap, by simp, by simpa using hl, by simp; unfold maxLen at hm; omega, fun _ => ⟨a, rfl, trivial, fun j p hp => ?_⟩⟩
    rw [List.getElem?_ofFn] at hp
    split at hp
    · obtain rfl := Option.some.inj hp
      exact Classical.choose_spec (hx ⟨j, by assumption⟩)
    · cases hp
theorem opens_slice {α : Type} {d : Kd α} {t e : TypeId} (hu : Try.prog.underlying t = some (.slice e)) (ho : Opens enc d e W) (h1 : Try.prog.cellsOf t = 1) : Opens enc (Kd.slice d) t W :=
  ⟨h1, fun n cs y h => by
    obtain ⟨A, xs, c, h1, h2, h3⟩ := open_row hu ho h
    exact ⟨xs, A, c, h1, h2, h3⟩⟩
/-- A struct's field that is read. -/
theorem field_at {t : TypeId} {fs : Array Field} {n : Nat} {cs : List Value} {x : DataW H × List MemPlace} (ht : Try.prog.underlying t = some (.struct fs)) (h : DataW.trod enc Try.prog W 0 (fun _ => true) true n t cs = some x) :
    cs.length = Try.prog.cellsOf t ∧ ∀ (i : Nat) (f : Field), fs[i]? = some f → ∃ m y, DataW.trod enc Try.prog W 0 (fun _ => true) true m f.type ((cs.drop f.offset).take (Try.prog.cellsOf f.type)) = some y := by
  obtain ⟨xs, m, _, _, hl, hlen, hf⟩ := DataW.trod_struct ht h
  refine ⟨hl, fun i f hi => ?_⟩
  have hi' : i < fs.size := (Array.getElem?_eq_some_iff.1 hi).1
  exact ⟨m, xs[i]'(by omega), by rw [hf i f hi, List.getElem?_eq_getElem]⟩
theorem int_at {t : TypeId} {k : IntKind} {n j : Nat} {cs : List Value} {y : DataW H × List MemPlace} (ht : Try.prog.underlying t = some (.int k)) (hc : Try.prog.cellsOf t = 1) (h : DataW.trod enc Try.prog W 0 (fun _ => true) true n t ((cs.drop j).take (Try.prog.cellsOf t)) = some y) : ∃ v, cs[j]? = some (.int k v) := by
  obtain ⟨v, h1, _⟩ := DataW.trod_int ht h
  rw [hc] at h1
  refine ⟨v, ?_⟩
  have := congrArg (·[0]?) h1
  simpa [List.getElem?_take, List.getElem?_drop] using this
theorem bool_at {t : TypeId} {n j : Nat} {cs : List Value} {y : DataW H × List MemPlace} (ht : Try.prog.underlying t = some .bool) (hc : Try.prog.cellsOf t = 1) (h : DataW.trod enc Try.prog W 0 (fun _ => true) true n t ((cs.drop j).take (Try.prog.cellsOf t)) = some y) : ∃ v, cs[j]? = some (.bool v) := by
  obtain ⟨v, h1, _⟩ := DataW.trod_bool ht h
  rw [hc] at h1
  refine ⟨v, ?_⟩
  have := congrArg (·[0]?) h1
  simpa [List.getElem?_take, List.getElem?_drop] using this
theorem slice_at {α : Type} {d : Kd α} {t e : TypeId} {n j : Nat} {cs : List Value} {y : DataW H × List MemPlace} (hu : Try.prog.underlying t = some (.slice e)) (ho : Opens enc d e W) (hc : Try.prog.cellsOf t = 1)
    (h : DataW.trod enc Try.prog W 0 (fun _ => true) true n t ((cs.drop j).take (Try.prog.cellsOf t)) = some y) : ∃ A xs c, cs[j]? = some (.slice A (xs : List α).length c) ∧ xs.length ≤ c ∧ d.C (fun _ => True) W A xs := by
  obtain ⟨A, xs, c, h1, h2, h3⟩ := open_row hu ho h
  rw [hc] at h1
  refine ⟨A, xs, c, ?_, h2, h3⟩
  have := congrArg (·[0]?) h1
  simpa [List.getElem?_take, List.getElem?_drop] using this
theorem cInt : Try.prog.cellsOf 3 = 1 := by kernel_rfl
theorem cI64 : Try.prog.cellsOf 2 = 1 := by kernel_rfl
theorem cBool : Try.prog.cellsOf 4 = 1 := by kernel_rfl
theorem i64_rng {t : TypeId} {n j : Nat} {cs : List Value} {y : DataW H × List MemPlace} (ht : Try.prog.underlying t = some (.int .i64)) (hc : Try.prog.cellsOf t = 1) (h : DataW.trod enc Try.prog W 0 (fun _ => true) true n t ((cs.drop j).take (Try.prog.cellsOf t)) = some y) :
    ∃ v, cs[j]? = some (.int .i64 v) ∧ -9223372036854775808 ≤ v ∧ v ≤ 9223372036854775807 := by
  obtain ⟨v, h1, h2⟩ := DataW.trod_int ht h
  rw [hc] at h1
  refine ⟨v, ?_, ?_⟩
  · have := congrArg (·[0]?) h1
    simpa [List.getElem?_take, List.getElem?_drop] using this
  · have := h2.2
    simp [Lit.wf, IntKind.min, IntKind.max, IntKind.wrap, IntKind.bits, IntKind.signed] at this
    omega
/-- A call whose thread's number is one. -/
def kPCw : Kd PC where
  sz := 6
  K := fun _ _ x cs => cs = x.enc ∧ -9223372036854775808 ≤ x.t ∧ x.t ≤ 9223372036854775807
  len := by rintro ok w x cs ⟨rfl, _⟩; rfl
  one := by rintro ok w x cs ⟨rfl, _⟩ u hu; simp [PC.enc] at hu; rcases hu with rfl | rfl | rfl | rfl | rfl | rfl <;> rfl
  mono := fun _ h => h
  keep := fun _ h => h
  pos := by decide
  bound := fun h => h
theorem drop_take (cs : List Value) (a b c : Nat) (h : b ≤ c) : (((cs.drop a).take c).drop b) = (cs.drop (a + b)).take (c - b) := by
  rw [List.drop_take, List.drop_drop]
set_option maxRecDepth 100000 in
theorem opens_pc : Opens enc kPCw 35 W where
  sz := by kernel_rfl
  rd := fun n cs y h => by
    obtain ⟨hl, hf⟩ := field_at Try.underlying35 h
    rw [show Try.prog.cellsOf 35 = 6 from by kernel_rfl] at hl
    obtain ⟨_, _, g0⟩ := hf 0 _ rfl
    obtain ⟨_, _, g1⟩ := hf 1 _ rfl
    obtain ⟨v0, e0, hr⟩ := i64_rng Try.underlying3 cInt g0
    obtain ⟨hl2, hf2⟩ := field_at Try.underlying33 g1
    obtain ⟨_, _, k0⟩ := hf2 0 _ rfl
    obtain ⟨_, _, k1⟩ := hf2 1 _ rfl
    obtain ⟨_, _, k2⟩ := hf2 2 _ rfl
    obtain ⟨_, _, k3⟩ := hf2 3 _ rfl
    obtain ⟨_, _, k4⟩ := hf2 4 _ rfl
    obtain ⟨w0, d0⟩ := int_at Try.underlying3 cInt k0
    obtain ⟨w1, d1⟩ := int_at Try.underlying3 cInt k1
    obtain ⟨w2, d2⟩ := int_at Try.underlying3 cInt k2
    obtain ⟨w3, d3⟩ := int_at Try.underlying2 cI64 k3
    obtain ⟨w4, d4⟩ := bool_at Try.underlying4 cBool k4
    have c5 : Try.prog.cellsOf 33 = 5 := by kernel_rfl
    change (List.take (Try.prog.cellsOf 33) (List.drop 1 cs))[0]? = _ at d0
    change (List.take (Try.prog.cellsOf 33) (List.drop 1 cs))[1]? = _ at d1
    change (List.take (Try.prog.cellsOf 33) (List.drop 1 cs))[2]? = _ at d2
    change (List.take (Try.prog.cellsOf 33) (List.drop 1 cs))[3]? = _ at d3
    change (List.take (Try.prog.cellsOf 33) (List.drop 1 cs))[4]? = _ at d4
    rw [c5] at d0 d1 d2 d3 d4
    refine ⟨⟨v0, w0, w1, w2, w3, w4⟩, ?_, hr⟩
    match cs, hl with
    | [c0, c1, c2, c3, c4, c5], _ =>
      simp at e0 d0 d1 d2 d3 d4
      subst e0 d0 d1 d2 d3 d4
      rfl
/-- An argument that is calls. -/
def IsCalls (W : World) (v : Value) : Prop := ∃ l A c, v = .slice A (l : List PC).length c ∧ kPC.C (fun _ => True) W A l ∧ ∀ x ∈ l, -9223372036854775808 ≤ x.t ∧ x.t ≤ 9223372036854775807
set_option maxRecDepth 100000 in
theorem open_calls {r : Reach} {b0 : Nat} {v : Value} {d : DataW H} {p : List MemPlace} (hv : Value.okWide Try.prog W r b0 24 v)
    (h : DataW.Trod enc Try.prog W 0 (fun _ => true) true 24 v d p) : IsCalls W v := by
  obtain ⟨n, h⟩ := h
  obtain ⟨A, xs, c, h1, h2, h3⟩ := open_row (Try.underlying24) opens_pc h
  have hv2 : v = .slice A xs.length c := by
    unfold Value.okWide at hv
    rw [Try.underlying24] at hv
    revert h1 hv
    cases v <;> simp [Value.cells, Cell.okWide, Cell.ok, Try.underlying24]
  refine ⟨xs, A, c, hv2, ⟨h3.1, fun hx => ?_⟩, fun x hx => ?_⟩
  · obtain ⟨ad, e, ho, hc⟩ := h3.2 hx
    refine ⟨ad, e, ho, fun j p hp => ?_⟩
    obtain ⟨cs, ⟨hK, _⟩, hcell⟩ := hc j p hp
    exact ⟨cs, hK, hcell⟩
  · obtain ⟨j, hj⟩ := List.mem_iff_getElem?.1 hx
    obtain ⟨ad, e, ho, hc⟩ := h3.2 (by rintro rfl; simp at hx)
    obtain ⟨cs, ⟨_, hK⟩, _⟩ := hc j x hj
    exact hK
/-- An argument that is an object. -/
def IsObj (v : Value) : Prop := ∃ k f n, v = .agg #[.int .i64 k, .bool f, .int .i64 n]
set_option maxRecDepth 100000 in
theorem open_obj {r : Reach} {b0 : Nat} {v : Value} {d : DataW H} {p : List MemPlace} (hv : Value.okWide Try.prog W r b0 23 v)
    (h : DataW.Trod enc Try.prog W 0 (fun _ => true) true 23 v d p) : IsObj v := by
  unfold Value.okWide at hv
  rw [Try.underlying23] at hv
  obtain ⟨cs, rfl, hsz, _⟩ := hv
  obtain ⟨n, h⟩ := h
  obtain ⟨hl, hf⟩ := field_at Try.underlying23 h
  rw [show Try.prog.cellsOf 23 = 3 from by kernel_rfl] at hsz
  obtain ⟨_, _, g0⟩ := hf 0 _ rfl
  obtain ⟨_, _, g1⟩ := hf 1 _ rfl
  obtain ⟨_, _, g2⟩ := hf 2 _ rfl
  obtain ⟨v0, e0⟩ := int_at Try.underlying3 cInt g0
  obtain ⟨v1, e1⟩ := bool_at Try.underlying4 cBool g1
  obtain ⟨v2, e2⟩ := int_at Try.underlying3 cInt g2
  refine ⟨v0, v1, v2, ?_⟩
  congr 1
  apply Array.ext'
  match h9 : cs.toList with
  | [x0, x1, x2] =>
    have : (Value.agg cs).cells.toList = [x0, x1, x2] := h9
    rw [this] at e0 e1 e2
    simp at e0 e1 e2
    subst e0 e1 e2
    rfl
  | [] | [_] | [_, _] | _ :: _ :: _ :: _ :: _ =>
    have := congrArg List.length h9
    rw [Array.length_toList] at this
    simp only [List.length_cons, List.length_nil] at this
    omega
end
end Go.Proofs.Ytegjkheecbmioaa
