/- The walks of the reference's small functions of layer 5. -/
import Derived.Test.YtikfkkinhipfjaaScrC
namespace Go.Proofs.Ytikfkkinhipfjaa
open Go.RowKit
set_option linter.unusedVariables false
set_option linter.unusedSimpArgs false

theorem tab_of (k : Int) (h0 : 0 ≤ k) (h1 : k < 20) : ([0, 1, 1, 1, 2, 2, 2, 2, 3, 3, 4, 4, 4, 4, 4, 4, 1, 1, 1, 5] : List Int).getD k.toNat 0 = ofI k := by
  obtain ⟨n, rfl⟩ := Int.eq_ofNat_of_zero_le h0
  have : ∀ m : Fin 20, ([0, 1, 1, 1, 2, 2, 2, 2, 3, 3, 4, 4, 4, 4, 4, 4, 1, 1, 1, 5] : List Int).getD m.val 0 = ofI (m.val : Int) := by decide
  exact this ⟨n, by omega⟩
theorem tabv_of (k : Int) (h0 : 0 ≤ k) (h1 : k < 20) (hb : k.toNat < ([Value.int IntKind.i64 0, Value.int IntKind.i64 1, Value.int IntKind.i64 1, Value.int IntKind.i64 1, Value.int IntKind.i64 2, Value.int IntKind.i64 2, Value.int IntKind.i64 2, Value.int IntKind.i64 2,
            Value.int IntKind.i64 3, Value.int IntKind.i64 3, Value.int IntKind.i64 4, Value.int IntKind.i64 4, Value.int IntKind.i64 4, Value.int IntKind.i64 4, Value.int IntKind.i64 4, Value.int IntKind.i64 4, Value.int IntKind.i64 1, Value.int IntKind.i64 1, Value.int IntKind.i64 1, Value.int IntKind.i64 5] : List Value).length) :
    [Value.int IntKind.i64 0, Value.int IntKind.i64 1, Value.int IntKind.i64 1, Value.int IntKind.i64 1, Value.int IntKind.i64 2, Value.int IntKind.i64 2, Value.int IntKind.i64 2, Value.int IntKind.i64 2,
            Value.int IntKind.i64 3, Value.int IntKind.i64 3, Value.int IntKind.i64 4, Value.int IntKind.i64 4, Value.int IntKind.i64 4, Value.int IntKind.i64 4, Value.int IntKind.i64 4, Value.int IntKind.i64 4, Value.int IntKind.i64 1, Value.int IntKind.i64 1, Value.int IntKind.i64 1, Value.int IntKind.i64 5][k.toNat]'hb = .int .i64 (ofI k) := by
  rw [← tab_of k h0 h1]
  have e : ([Value.int IntKind.i64 0, Value.int IntKind.i64 1, Value.int IntKind.i64 1, Value.int IntKind.i64 1, Value.int IntKind.i64 2, Value.int IntKind.i64 2, Value.int IntKind.i64 2, Value.int IntKind.i64 2,
            Value.int IntKind.i64 3, Value.int IntKind.i64 3, Value.int IntKind.i64 4, Value.int IntKind.i64 4, Value.int IntKind.i64 4, Value.int IntKind.i64 4, Value.int IntKind.i64 4, Value.int IntKind.i64 4, Value.int IntKind.i64 1, Value.int IntKind.i64 1, Value.int IntKind.i64 1, Value.int IntKind.i64 5] : List Value) = ([0, 1, 1, 1, 2, 2, 2, 2, 3, 3, 4, 4, 4, 4, 4, 4, 1, 1, 1, 5] : List Int).map (.int .i64) := rfl
  simp only [e, List.getElem_map, List.getD_eq_getElem?_getD]
  rw [List.getElem?_eq_getElem (by simp; omega)]
  rfl
set_option maxHeartbeats 800000 in
theorem rof_calls (k : Int) (w : World) : Calls Try.prog 43 #[.int .i64 k] w fun e w' => e = .returned (.int .i64 (ofI k)) ∧ Below w.heap.size w w' := by
  go_enter Try.func43, Try.ntmps43
  go_wp2
  · go_ret
    exact ⟨by congr 2; simp only [ofI]; simp; repeat (rw [if_neg (by omega)]), by (repeat (with_reducible first | exact Below.refl _ _ | assumption | apply below_alloc | apply below_drewN | apply below_drew1 | (refine below_set ?_ (by simp only [alloc_size]; omega)) | (refine below_step ?_ (by assumption))))⟩
  · rename_i h0 h1
    go_ret
    exact ⟨congrArg Ending.returned (tabv_of k h0 h1.2 _), by (repeat (with_reducible first | exact Below.refl _ _ | assumption | apply below_alloc | apply below_drewN | apply below_drew1 | (refine below_set ?_ (by simp only [alloc_size]; omega)) | (refine below_step ?_ (by assumption))))⟩
  · go_ret
    exact ⟨by congr 2; simp only [ofI]; simp; repeat (rw [if_neg (by omega)]), by (repeat (with_reducible first | exact Below.refl _ _ | assumption | apply below_alloc | apply below_drewN | apply below_drew1 | (refine below_set ?_ (by simp only [alloc_size]; omega)) | (refine below_step ?_ (by assumption))))⟩

set_option maxHeartbeats 800000 in
theorem rwaits_calls (k : Int) (w : World) : Calls Try.prog 44 #[.int .i64 k] w fun e w' => e = .returned (.bool (waitsB k)) ∧ w = w' := by
  go_enter Try.func44, Try.ntmps44
  go_wp2
  all_goals
    go_ret
    exact ⟨by congr 2; simp only [waitsB]; simp_all; try (rw [Bool.eq_iff_iff]; simp_all), rfl⟩
theorem of_bd (k : Int) : 0 ≤ ofI k ∧ ofI k ≤ 5 := by unfold ofI; (repeat' split) <;> omega
theorem of_iff (k : Int) : ofI k ≠ 0 ↔ (1 ≤ k ∧ k ≤ 19) := by unfold ofI; (repeat' split) <;> omega
end Go.Proofs.Ytikfkkinhipfjaa
