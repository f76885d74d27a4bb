/- An argument that is bytes, opened. -/
import Derived.Test.YtikfkkinhipfjaaOpen
import Derived.Test.YtikfkkinhipfjaaRdA
namespace Go.Proofs.Ytikfkkinhipfjaa
open Go.RowKit Go.ChangeShapes
set_option linter.unusedVariables false
set_option linter.unusedSimpArgs false
/-- An element that is a byte. -/
def kByteW : Kd Nat where
  sz := 1
  K := fun _ _ x cs => cs = [byteV x] ∧ x < 256
  len := by rintro ok w x cs ⟨rfl, _⟩; rfl
  one := by rintro ok w x cs ⟨rfl, _⟩ u hu; rw [List.mem_singleton.1 hu]; rfl
  mono := fun _ h => h
  keep := fun _ h => h
  pos := by decide
  bound := fun h => h
section
variable {H : Type} {enc : TypeId × Value → H} {W : World}
theorem opens_byte : Opens enc kByteW 5 W where
  sz := by kernel_rfl
  rd := fun n cs y h => by
    obtain ⟨v, h1, h2⟩ := DataW.trod_int (by kernel_rfl : Try.prog.underlying 5 = some (.int .u8)) h
    have hv : 0 ≤ v ∧ v < 256 := by
      have := h2.2
      simp [Lit.wf, IntKind.min, IntKind.max, IntKind.wrap, IntKind.bits, IntKind.signed] at this
      omega
    obtain ⟨x, rfl⟩ := Int.eq_ofNat_of_zero_le hv.1
    exact ⟨x, h1, by omega⟩
/-- An argument that is bytes. -/
def IsBytes (W : World) (v : Value) : Prop := ∃ l A c, v = .slice A (l : List Nat).length c ∧ l.length ≤ c ∧ kByte.C (fun _ => True) W A l ∧ ∀ x ∈ l, x < 256
theorem open_bytes {r : Reach} {b0 : Nat} {v : Value} {d : DataW H} {p : List MemPlace} (hv : Value.okWide Try.prog W r b0 29 v)
    (h : DataW.Trod enc Try.prog W 0 (fun _ => true) true 29 v d p) : IsBytes W v := by
  obtain ⟨n, h⟩ := h
  obtain ⟨A, xs, c, h1, h2, h3⟩ := open_row (Try.underlying29) opens_byte h
  have hv2 : v = .slice A xs.length c := by
    unfold Value.okWide at hv
    rw [Try.underlying29] at hv
    revert h1 hv
    cases v <;> simp [Value.cells, Cell.okWide, Cell.ok, Try.underlying29]
  refine ⟨xs, A, c, hv2, h2, ⟨h3.1, fun hx => ?_⟩, fun x hx => ?_⟩
  · obtain ⟨ad, e, ho, hc⟩ := h3.2 hx
    refine ⟨ad, e, ho, fun j p hp => ?_⟩
    obtain ⟨cs, ⟨hK, _⟩, hcell⟩ := hc j p hp
    exact ⟨cs, hK, hcell⟩
  · obtain ⟨j, hj⟩ := List.mem_iff_getElem?.1 hx
    obtain ⟨ad, e, ho, hc⟩ := h3.2 (by rintro rfl; simp at hx)
    obtain ⟨cs, ⟨_, hK⟩, _⟩ := hc j x hj
    exact hK
end
end Go.Proofs.Ytikfkkinhipfjaa
