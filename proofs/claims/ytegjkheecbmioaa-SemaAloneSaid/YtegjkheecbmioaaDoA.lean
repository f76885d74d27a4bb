/- The walks of the model's rows for a Sema; Do of a Sema and of a Latch. -/
import Derived.Test.YtegjkheecbmioaaChA
namespace Go.Proofs.Ytegjkheecbmioaa
open Go.RowKit
set_option linter.unusedVariables false
set_option linter.unusedSimpArgs false

def semaP (x : Th) (k v : Int) : Th × Bool :=
  if k = 1 then (if v ≤ x.n then ({ x with n := x.n - v }, true) else (x, false))
  else if k = 3 then (if v ≤ 1000 - x.n then ({ x with n := x.n + v }, true) else (x, false))
  else if k = 5 then (x, decide (x.n < v))
  else if k = 7 then (x, decide (1000 - x.n < v))
  else (if v = x.n then ({ x with n := 0 }, true) else (x, false))
/-- The marks that calls of a Sema come to. -/
def semaM (k v : Int) : Prop := 0 ≤ v ∧ v ≤ 1000 ∧ (((k = 1 ∨ k = 3 ∨ k = 5 ∨ k = 7) ∧ 1 ≤ v) ∨ k = 9)
set_option maxRecDepth 100000 in
set_option maxHeartbeats 3200000 in
theorem Sema_calls (x : Th) (k v : Int) (w : World) (h0 : 0 ≤ x.n) (h1 : x.n ≤ 1000) (hm : semaM k v) :
    Calls Try.prog 64 #[x.v, .int .i64 k, .int .i64 v] w fun e w' => e = .returned (.tuple #[(semaP x k v).1.v, .bool (semaP x k v).2]) ∧ Below w.heap.size w w' := by
  obtain ⟨xk, xn, xo, xh, x0, x1, x2, x3, x4, x5, x6, x7, xf, xi⟩ := x
  dsimp only at h0 h1
  obtain ⟨h2, h3, h4⟩ := hm
  rw [thv_eq]
  rcases h4 with ⟨h4, h1v⟩ | rfl
  · rcases h4 with rfl | rfl | rfl | rfl
    · by_cases hc : v ≤ xn
      · rw [show semaP ⟨xk, xn, xo, xh, x0, x1, x2, x3, x4, x5, x6, x7, xf, xi⟩ 1 v = (⟨xk, xn - v, xo, xh, x0, x1, x2, x3, x4, x5, x6, x7, xf, xi⟩, true) from if_pos hc]
        have d0 : decide (1 ≤ v) = true := decide_eq_true h1v
        have d1 : decide (v ≤ xn) = true := decide_eq_true hc
        have a1 : IntKind.i64.wrap (xn - v) = xn - v := by rw [IntKind.wrap_i64]; omega
        clear hc
        as_aux_lemma =>
        go_enter Try.func64, Try.ntmps64
        go_wp2_with fail
        refine bodyPost_ret (v := .tuple #[(⟨xk, xn - v, xo, xh, x0, x1, x2, x3, x4, x5, x6, x7, xf, xi⟩ : Th).v, .bool true]) ?_ rfl ⟨rfl, by (repeat (with_reducible first | exact Below.refl _ _ | assumption | apply below_alloc | apply below_drewN | apply below_drew1 | (refine below_set ?_ (by simp only [alloc_size]; omega)) | (refine below_step ?_ (by assumption))))⟩
        simp [results, Try.results64, go_sem, Th.v]
      · rw [show semaP ⟨xk, xn, xo, xh, x0, x1, x2, x3, x4, x5, x6, x7, xf, xi⟩ 1 v = (⟨xk, xn, xo, xh, x0, x1, x2, x3, x4, x5, x6, x7, xf, xi⟩, false) from if_neg hc]
        have d0 : decide (1 ≤ v) = true := decide_eq_true h1v
        have d1 : decide (v ≤ xn) = false := decide_eq_false hc
        clear hc
        as_aux_lemma =>
        go_enter Try.func64, Try.ntmps64
        go_wp2_with fail
        refine bodyPost_ret (v := .tuple #[(⟨xk, xn, xo, xh, x0, x1, x2, x3, x4, x5, x6, x7, xf, xi⟩ : Th).v, .bool false]) ?_ rfl ⟨rfl, by (repeat (with_reducible first | exact Below.refl _ _ | assumption | apply below_alloc | apply below_drewN | apply below_drew1 | (refine below_set ?_ (by simp only [alloc_size]; omega)) | (refine below_step ?_ (by assumption))))⟩
        simp [results, Try.results64, go_sem, Th.v]
    · by_cases hc : v ≤ 1000 - xn
      · rw [show semaP ⟨xk, xn, xo, xh, x0, x1, x2, x3, x4, x5, x6, x7, xf, xi⟩ 3 v = (⟨xk, xn + v, xo, xh, x0, x1, x2, x3, x4, x5, x6, x7, xf, xi⟩, true) from if_pos hc]
        have d0 : decide (1 ≤ v) = true := decide_eq_true h1v
        have a3 : IntKind.i64.wrap (1000 - xn) = 1000 - xn := by rw [IntKind.wrap_i64]; omega
        have d1 : decide (v ≤ 1000 - xn) = true := decide_eq_true hc
        have a1 : IntKind.i64.wrap (xn + v) = xn + v := by rw [IntKind.wrap_i64]; omega
        clear hc
        as_aux_lemma =>
        go_enter Try.func64, Try.ntmps64
        go_wp2_with fail
        refine bodyPost_ret (v := .tuple #[(⟨xk, xn + v, xo, xh, x0, x1, x2, x3, x4, x5, x6, x7, xf, xi⟩ : Th).v, .bool true]) ?_ rfl ⟨rfl, by (repeat (with_reducible first | exact Below.refl _ _ | assumption | apply below_alloc | apply below_drewN | apply below_drew1 | (refine below_set ?_ (by simp only [alloc_size]; omega)) | (refine below_step ?_ (by assumption))))⟩
        simp [results, Try.results64, go_sem, Th.v]
      · rw [show semaP ⟨xk, xn, xo, xh, x0, x1, x2, x3, x4, x5, x6, x7, xf, xi⟩ 3 v = (⟨xk, xn, xo, xh, x0, x1, x2, x3, x4, x5, x6, x7, xf, xi⟩, false) from if_neg hc]
        have d0 : decide (1 ≤ v) = true := decide_eq_true h1v
        have a3 : IntKind.i64.wrap (1000 - xn) = 1000 - xn := by rw [IntKind.wrap_i64]; omega
        have d1 : decide (v ≤ 1000 - xn) = false := decide_eq_false hc
        clear hc
        as_aux_lemma =>
        go_enter Try.func64, Try.ntmps64
        go_wp2_with fail
        refine bodyPost_ret (v := .tuple #[(⟨xk, xn, xo, xh, x0, x1, x2, x3, x4, x5, x6, x7, xf, xi⟩ : Th).v, .bool false]) ?_ rfl ⟨rfl, by (repeat (with_reducible first | exact Below.refl _ _ | assumption | apply below_alloc | apply below_drewN | apply below_drew1 | (refine below_set ?_ (by simp only [alloc_size]; omega)) | (refine below_step ?_ (by assumption))))⟩
        simp [results, Try.results64, go_sem, Th.v]
    · rw [show semaP ⟨xk, xn, xo, xh, x0, x1, x2, x3, x4, x5, x6, x7, xf, xi⟩ 5 v = (⟨xk, xn, xo, xh, x0, x1, x2, x3, x4, x5, x6, x7, xf, xi⟩, decide (xn < v)) from rfl]
      as_aux_lemma =>
      go_enter Try.func64, Try.ntmps64
      go_wp2_with fail
      refine bodyPost_ret (v := .tuple #[(⟨xk, xn, xo, xh, x0, x1, x2, x3, x4, x5, x6, x7, xf, xi⟩ : Th).v, .bool (decide (xn < v))]) ?_ rfl ⟨rfl, by (repeat (with_reducible first | exact Below.refl _ _ | assumption | apply below_alloc | apply below_drewN | apply below_drew1 | (refine below_set ?_ (by simp only [alloc_size]; omega)) | (refine below_step ?_ (by assumption))))⟩
      simp [results, Try.results64, go_sem, Th.v]
    · rw [show semaP ⟨xk, xn, xo, xh, x0, x1, x2, x3, x4, x5, x6, x7, xf, xi⟩ 7 v = (⟨xk, xn, xo, xh, x0, x1, x2, x3, x4, x5, x6, x7, xf, xi⟩, decide (1000 - xn < v)) from rfl]
      have d0 : decide (1 ≤ v) = true := decide_eq_true h1v
      have a3 : IntKind.i64.wrap (1000 - xn) = 1000 - xn := by rw [IntKind.wrap_i64]; omega
      as_aux_lemma =>
      go_enter Try.func64, Try.ntmps64
      go_wp2_with fail
      refine bodyPost_ret (v := .tuple #[(⟨xk, xn, xo, xh, x0, x1, x2, x3, x4, x5, x6, x7, xf, xi⟩ : Th).v, .bool (decide (1000 - xn < v))]) ?_ rfl ⟨rfl, by (repeat (with_reducible first | exact Below.refl _ _ | assumption | apply below_alloc | apply below_drewN | apply below_drew1 | (refine below_set ?_ (by simp only [alloc_size]; omega)) | (refine below_step ?_ (by assumption))))⟩
      simp [results, Try.results64, go_sem, Th.v]
  · by_cases hc : v = xn
    · rw [show semaP ⟨xk, xn, xo, xh, x0, x1, x2, x3, x4, x5, x6, x7, xf, xi⟩ 9 v = (⟨xk, 0, xo, xh, x0, x1, x2, x3, x4, x5, x6, x7, xf, xi⟩, true) from if_pos hc]
      have d1 : (v == xn) = true := by simpa using hc
      clear hc
      as_aux_lemma =>
      go_enter Try.func64, Try.ntmps64
      go_wp2_with fail
      refine bodyPost_ret (v := .tuple #[(⟨xk, 0, xo, xh, x0, x1, x2, x3, x4, x5, x6, x7, xf, xi⟩ : Th).v, .bool true]) ?_ rfl ⟨rfl, by (repeat (with_reducible first | exact Below.refl _ _ | assumption | apply below_alloc | apply below_drewN | apply below_drew1 | (refine below_set ?_ (by simp only [alloc_size]; omega)) | (refine below_step ?_ (by assumption))))⟩
      simp [results, Try.results64, go_sem, Th.v]
    · rw [show semaP ⟨xk, xn, xo, xh, x0, x1, x2, x3, x4, x5, x6, x7, xf, xi⟩ 9 v = (⟨xk, xn, xo, xh, x0, x1, x2, x3, x4, x5, x6, x7, xf, xi⟩, false) from if_neg hc]
      have d1 : (v == xn) = false := by simpa using hc
      clear hc
      as_aux_lemma =>
      go_enter Try.func64, Try.ntmps64
      go_wp2_with fail
      refine bodyPost_ret (v := .tuple #[(⟨xk, xn, xo, xh, x0, x1, x2, x3, x4, x5, x6, x7, xf, xi⟩ : Th).v, .bool false]) ?_ rfl ⟨rfl, by (repeat (with_reducible first | exact Below.refl _ _ | assumption | apply below_alloc | apply below_drewN | apply below_drew1 | (refine below_set ?_ (by simp only [alloc_size]; omega)) | (refine below_step ?_ (by assumption))))⟩
      simp [results, Try.results64, go_sem, Th.v]
end Go.Proofs.Ytegjkheecbmioaa
