/- Do of a Latch, for the marks that its calls come to. -/
import Derived.Test.YtegjkheecbmioaaChA
import Derived.BigRegion
namespace Go.Proofs.Ytegjkheecbmioaa
open Go.RowKit
set_option linter.unusedVariables false
set_option linter.unusedSimpArgs false

set_option maxRecDepth 100000 in
set_option maxHeartbeats 3200000 in
theorem doLt_17 (xn xo xh x0 x1 x2 x3 x4 x5 x6 x7 xf xi : Int) (t : Nat) (w : World) (ht : t < 8) (h0 : 0 ≤ xn) (h1 : xn ≤ 1000)  :
    Calls Try.prog 51 #[(⟨3, xn, xo, xh, x0, x1, x2, x3, x4, x5, x6, x7, xf, xi⟩ : Th).v, .int .i64 t, .agg #[.int .i64 17, .int .i64 0]] w fun e w' => e = .returned (.tuple #[(⟨3, xn, xo, xh, x0, x1, x2, x3, x4, x5, x6, x7, xf, xi⟩ : Th).v, .bool true]) ∧ Below w.heap.size w w' := by
  rw [thv_eq]
  have e0 : decide ((t : Int) < 0) = false := decide_eq_false (by omega)
  have e1 : decide (7 < (t : Int)) = false := decide_eq_false (by omega)

  as_aux_lemma =>
  go_enter Try.func51, Try.ntmps51
  go_wp2_with (first | go_region)
  refine bodyPost_ret (v := .tuple #[(⟨3, xn, xo, xh, x0, x1, x2, x3, x4, x5, x6, x7, xf, xi⟩ : Th).v, .bool true]) ?_ rfl ⟨rfl, by (repeat (with_reducible first | exact Below.refl _ _ | assumption | apply below_alloc | apply below_drewN | apply below_drew1 | (refine below_set ?_ (by simp only [alloc_size]; omega)) | (refine below_step ?_ (by assumption))))⟩
  simp [results, Try.results51, go_sem, Th.v]
set_option maxRecDepth 100000 in
set_option maxHeartbeats 3200000 in
theorem doLt_1y (xn xo xh x0 x1 x2 x3 x4 x5 x6 x7 xf xi : Int) (t : Nat) (w : World) (ht : t < 8) (h0 : 0 ≤ xn) (h1 : xn ≤ 1000) (hn : xn = 0) :
    Calls Try.prog 51 #[(⟨3, xn, xo, xh, x0, x1, x2, x3, x4, x5, x6, x7, xf, xi⟩ : Th).v, .int .i64 t, .agg #[.int .i64 1, .int .i64 0]] w fun e w' => e = .returned (.tuple #[(⟨3, xn, xo, xh, x0, x1, x2, x3, x4, x5, x6, x7, xf, xi⟩ : Th).v, .bool true]) ∧ Below w.heap.size w w' := by
  rw [thv_eq]
  have e0 : decide ((t : Int) < 0) = false := decide_eq_false (by omega)
  have e1 : decide (7 < (t : Int)) = false := decide_eq_false (by omega)
  have d0 : (xn == 0) = true := by simpa using hn
  clear hn
  as_aux_lemma =>
  go_enter Try.func51, Try.ntmps51
  go_wp2_with (first | go_region)
  refine bodyPost_ret (v := .tuple #[(⟨3, xn, xo, xh, x0, x1, x2, x3, x4, x5, x6, x7, xf, xi⟩ : Th).v, .bool true]) ?_ rfl ⟨rfl, by (repeat (with_reducible first | exact Below.refl _ _ | assumption | apply below_alloc | apply below_drewN | apply below_drew1 | (refine below_set ?_ (by simp only [alloc_size]; omega)) | (refine below_step ?_ (by assumption))))⟩
  simp [results, Try.results51, go_sem, Th.v]
set_option maxRecDepth 100000 in
set_option maxHeartbeats 3200000 in
theorem doLt_1n (xn xo xh x0 x1 x2 x3 x4 x5 x6 x7 xf xi : Int) (t : Nat) (w : World) (ht : t < 8) (h0 : 0 ≤ xn) (h1 : xn ≤ 1000) (hn : xn ≠ 0) :
    Calls Try.prog 51 #[(⟨3, xn, xo, xh, x0, x1, x2, x3, x4, x5, x6, x7, xf, xi⟩ : Th).v, .int .i64 t, .agg #[.int .i64 1, .int .i64 0]] w fun e w' => e = .returned (.tuple #[(⟨3, xn, xo, xh, x0, x1, x2, x3, x4, x5, x6, x7, xf, xi⟩ : Th).v, .bool false]) ∧ Below w.heap.size w w' := by
  rw [thv_eq]
  have e0 : decide ((t : Int) < 0) = false := decide_eq_false (by omega)
  have e1 : decide (7 < (t : Int)) = false := decide_eq_false (by omega)
  have d0 : (xn == 0) = false := by simpa using hn
  clear hn
  as_aux_lemma =>
  go_enter Try.func51, Try.ntmps51
  go_wp2_with (first | go_region)
  refine bodyPost_ret (v := .tuple #[(⟨3, xn, xo, xh, x0, x1, x2, x3, x4, x5, x6, x7, xf, xi⟩ : Th).v, .bool false]) ?_ rfl ⟨rfl, by (repeat (with_reducible first | exact Below.refl _ _ | assumption | apply below_alloc | apply below_drewN | apply below_drew1 | (refine below_set ?_ (by simp only [alloc_size]; omega)) | (refine below_step ?_ (by assumption))))⟩
  simp [results, Try.results51, go_sem, Th.v]
set_option maxRecDepth 100000 in
set_option maxHeartbeats 3200000 in
theorem doLt_81y (xn xo xh x0 x1 x2 x3 x4 x5 x6 x7 xf xi : Int) (t : Nat) (w : World) (ht : t < 8) (h0 : 0 ≤ xn) (h1 : xn ≤ 1000) (hn : xn ≠ 0) :
    Calls Try.prog 51 #[(⟨3, xn, xo, xh, x0, x1, x2, x3, x4, x5, x6, x7, xf, xi⟩ : Th).v, .int .i64 t, .agg #[.int .i64 8, .int .i64 1]] w fun e w' => e = .returned (.tuple #[(⟨3, xn - 1, xo, xh, x0, x1, x2, x3, x4, x5, x6, x7, xf, xi⟩ : Th).v, .bool true]) ∧ Below w.heap.size w w' := by
  rw [thv_eq]
  have e0 : decide ((t : Int) < 0) = false := decide_eq_false (by omega)
  have e1 : decide (7 < (t : Int)) = false := decide_eq_false (by omega)
  have d0 : decide (0 < xn) = true := decide_eq_true (by omega)
  have a1 : IntKind.i64.wrap (xn - 1) = xn - 1 := by rw [IntKind.wrap_i64]; omega
  clear hn
  as_aux_lemma =>
  go_enter Try.func51, Try.ntmps51
  go_wp2_with (first | go_region)
  refine bodyPost_ret (v := .tuple #[(⟨3, xn - 1, xo, xh, x0, x1, x2, x3, x4, x5, x6, x7, xf, xi⟩ : Th).v, .bool true]) ?_ rfl ⟨rfl, by (repeat (with_reducible first | exact Below.refl _ _ | assumption | apply below_alloc | apply below_drewN | apply below_drew1 | (refine below_set ?_ (by simp only [alloc_size]; omega)) | (refine below_step ?_ (by assumption))))⟩
  simp [results, Try.results51, go_sem, Th.v]
set_option maxRecDepth 100000 in
set_option maxHeartbeats 3200000 in
theorem doLt_81n (xn xo xh x0 x1 x2 x3 x4 x5 x6 x7 xf xi : Int) (t : Nat) (w : World) (ht : t < 8) (h0 : 0 ≤ xn) (h1 : xn ≤ 1000) (hn : xn = 0) :
    Calls Try.prog 51 #[(⟨3, xn, xo, xh, x0, x1, x2, x3, x4, x5, x6, x7, xf, xi⟩ : Th).v, .int .i64 t, .agg #[.int .i64 8, .int .i64 1]] w fun e w' => e = .returned (.tuple #[(⟨3, xn, xo, xh, x0, x1, x2, x3, x4, x5, x6, x7, xf, xi⟩ : Th).v, .bool false]) ∧ Below w.heap.size w w' := by
  rw [thv_eq]
  have e0 : decide ((t : Int) < 0) = false := decide_eq_false (by omega)
  have e1 : decide (7 < (t : Int)) = false := decide_eq_false (by omega)
  have d0 : decide (0 < xn) = false := decide_eq_false (by omega)
  clear hn
  as_aux_lemma =>
  go_enter Try.func51, Try.ntmps51
  go_wp2_with (first | go_region)
  refine bodyPost_ret (v := .tuple #[(⟨3, xn, xo, xh, x0, x1, x2, x3, x4, x5, x6, x7, xf, xi⟩ : Th).v, .bool false]) ?_ rfl ⟨rfl, by (repeat (with_reducible first | exact Below.refl _ _ | assumption | apply below_alloc | apply below_drewN | apply below_drew1 | (refine below_set ?_ (by simp only [alloc_size]; omega)) | (refine below_step ?_ (by assumption))))⟩
  simp [results, Try.results51, go_sem, Th.v]
set_option maxRecDepth 100000 in
set_option maxHeartbeats 3200000 in
theorem doLt_80y (xn xo xh x0 x1 x2 x3 x4 x5 x6 x7 xf xi : Int) (t : Nat) (w : World) (ht : t < 8) (h0 : 0 ≤ xn) (h1 : xn ≤ 1000) (hn : xn = 0) :
    Calls Try.prog 51 #[(⟨3, xn, xo, xh, x0, x1, x2, x3, x4, x5, x6, x7, xf, xi⟩ : Th).v, .int .i64 t, .agg #[.int .i64 8, .int .i64 0]] w fun e w' => e = .returned (.tuple #[(⟨3, xn, xo, xh, x0, x1, x2, x3, x4, x5, x6, x7, xf, xi⟩ : Th).v, .bool true]) ∧ Below w.heap.size w w' := by
  rw [thv_eq]
  have e0 : decide ((t : Int) < 0) = false := decide_eq_false (by omega)
  have e1 : decide (7 < (t : Int)) = false := decide_eq_false (by omega)
  have d0 : (xn == 0) = true := by simpa using hn
  have a1 : IntKind.i64.wrap (xn - 0) = xn := by rw [IntKind.wrap_i64]; omega
  clear hn
  as_aux_lemma =>
  go_enter Try.func51, Try.ntmps51
  go_wp2_with (first | go_region)
  refine bodyPost_ret (v := .tuple #[(⟨3, xn, xo, xh, x0, x1, x2, x3, x4, x5, x6, x7, xf, xi⟩ : Th).v, .bool true]) ?_ rfl ⟨rfl, by (repeat (with_reducible first | exact Below.refl _ _ | assumption | apply below_alloc | apply below_drewN | apply below_drew1 | (refine below_set ?_ (by simp only [alloc_size]; omega)) | (refine below_step ?_ (by assumption))))⟩
  simp [results, Try.results51, go_sem, Th.v]
end Go.Proofs.Ytegjkheecbmioaa
