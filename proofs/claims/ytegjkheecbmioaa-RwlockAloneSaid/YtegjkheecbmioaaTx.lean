/- Strings as lists of numbers; the plain functions of the reference's parser. -/
import Derived.Test.YtegjkheecbmioaaProg
import Derived.Test.YtegjkheecbmioaaTy
namespace Go.Proofs.Ytegjkheecbmioaa
open Go.RowKit
set_option linter.unusedVariables false
set_option linter.unusedSimpArgs false

/-- A string's bytes as numbers. -/
def nb (s : ByteArray) : List Nat := s.data.toList.map UInt8.toNat
/-- The string of bytes. -/
def bs (l : List Nat) : ByteArray := ⟨(l.map UInt8.ofNat).toArray⟩
theorem bs_nb (s : ByteArray) : bs (nb s) = s := by
  rcases s with ⟨⟨l⟩⟩
  simp [bs, nb, Function.comp_def]
theorem nb_bs {l : List Nat} (h : ∀ x ∈ l, x < 256) : nb (bs l) = l := by
  simp only [bs, nb, List.map_map]
  rw [List.map_congr_left (g := id)]
  · simp
  · intro x hx
    have := h x hx
    simp [Function.comp]
    omega
theorem nb_len (s : ByteArray) : (nb s).length = s.size := by simp [nb]
theorem nb_lt (s : ByteArray) : ∀ x ∈ nb s, x < 256 := by
  intro x hx
  obtain ⟨u, _, rfl⟩ := List.mem_map.1 hx
  exact u.toNat_lt
theorem nb_get (s : ByteArray) (i : Nat) (h : i < s.size) : (nb s)[i]? = some (s[i].toNat) := by
  simp only [nb, List.getElem?_map]
  have : s.data.toList[i]? = some s[i] := by
    have h' : i < s.data.toList.length := by simpa using h
    rw [List.getElem?_eq_getElem h']
    rfl
  rw [this]; rfl
theorem nb_app (a b : ByteArray) : nb (a ++ b) = nb a ++ nb b := by
  simp [nb, ByteArray.data_append]
theorem nb_ext (s : ByteArray) (a b : Nat) : nb (s.extract a b) = ((nb s).take b).drop a := by
  simp only [nb, ByteArray.data_extract, Array.toList_extract, List.extract_eq_take_drop, List.map_drop, List.map_take]
  rw [List.drop_take]
theorem nb_inj {a b : ByteArray} (h : nb a = nb b) : a = b := by rw [← bs_nb a, h, bs_nb]

/-! ### Name -/
def ncB (x : Nat) : Bool := (decide (97 ≤ x) && decide (x ≤ 122)) || (decide (48 ≤ x) && decide (x ≤ 57)) || x == 95 || x == 46
def nameB (l : List Nat) : Bool := match l with
  | [] => false
  | x :: _ => decide (l.length ≤ 24) && decide (97 ≤ x) && decide (x ≤ 122) && l.all ncB
theorem all_hit {p : Nat → Bool} {l : List Nat} {k c : Nat} (h : l[k]? = some c) (hc : p c = false) : l.all p = false := by
  rw [List.all_eq_false]
  exact ⟨c, List.mem_of_getElem? h, by simp [hc]⟩
theorem all_step {p : Nat → Bool} {l : List Nat} {k c : Nat} (h : l[k]? = some c) (h1 : (l.take k).all p = true) (hc : p c = true) : (l.take (k + 1)).all p = true := by
  rw [List.take_add_one, h, List.all_append, h1]
  simp [hc]
theorem ncB_eq (x : Nat) : ncB x = decide ((97 ≤ x ∧ x ≤ 122) ∨ (48 ≤ x ∧ x ≤ 57) ∨ x = 95 ∨ x = 46) := by
  rw [Bool.eq_iff_iff]; simp [ncB]; omega
end Go.Proofs.Ytegjkheecbmioaa
