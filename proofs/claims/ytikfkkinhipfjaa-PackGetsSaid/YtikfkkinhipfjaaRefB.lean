/- The walks of the reference's object, call, pick of layer 5. -/
import Derived.Test.YtikfkkinhipfjaaRefA
namespace Go.Proofs.Ytikfkkinhipfjaa
open Go.RowKit
set_option linter.unusedVariables false
set_option linter.unusedSimpArgs false

set_option maxHeartbeats 1600000 in
theorem robj_calls (o : Ob) (w : World) :
    Calls Try.prog 21 #[.agg #[.int .i64 o.kind, .bool o.fair, .int .i64 o.n]] w fun e w' => e = .returned (.bool (objB o)) ∧ Below w.heap.size w w' := by
  obtain ⟨k, f, n⟩ := o
  go_enter Try.func21, Try.ntmps21
  go_wp2
  all_goals
    go_ret
    refine ⟨?_, by (repeat (with_reducible first | exact Below.refl _ _ | assumption | apply below_alloc | apply below_drewN | apply below_drew1 | (refine below_set ?_ (by simp only [alloc_size]; omega)) | (refine below_step ?_ (by assumption))))⟩
    congr 2
    simp only [objB] at *
    simp_all
    try omega
    try
      have e : n = 0 := by omega
      rw [Bool.eq_iff_iff]
      simp only [Bool.or_eq_true, Bool.and_eq_true, beq_iff_eq, decide_eq_true_eq]
      omega
set_option maxHeartbeats 1600000 in
theorem rpick_calls (p : Pk) (w : World) :
    Calls Try.prog 23 #[.agg #[.int .i64 p.kind, .int .i64 p.n]] w fun e w' => e = .returned (.bool (pickB p)) ∧ Below w.heap.size w w' := by
  obtain ⟨k, n⟩ := p
  go_enter Try.func23, Try.ntmps23
  go_wp2
  all_goals
    go_ret
    exact ⟨by congr 2; simp only [pickB]; simp_all; try omega, by (repeat (with_reducible first | exact Below.refl _ _ | assumption | apply below_alloc | apply below_drewN | apply below_drew1 | (refine below_set ?_ (by simp only [alloc_size]; omega)) | (refine below_step ?_ (by assumption))))⟩
set_option maxHeartbeats 1600000 in
theorem rcall_calls (o : Cl) (m : Int) (w : World) :
    Calls Try.prog 22 #[.agg #[.int .i64 o.kind, .int .i64 o.obj, .int .i64 o.n, .int .i64 o.wait, .bool o.breaks], .int .i64 m] w fun e w' => e = .returned (.bool (callB o m)) ∧ Below w.heap.size w w' := by
  obtain ⟨k, ob, n, wt, br⟩ := o
  go_enter Try.func22, Try.ntmps22
  go_wp2_with (first | (go_at_call 43; refine (rof_calls _ _).mono ?_; rintro e w' ⟨rfl, hb1⟩; have d0 := box_later hb1 (i := 0) rfl; have d1 := box_later hb1 (i := 1) rfl; have d2 := box_later hb1 (i := 2) rfl; have d3 := box_later hb1 (i := 3) rfl; have d4 := box_later hb1 (i := 4) rfl) | (go_at_call 44; refine (rwaits_calls _ _).mono ?_; rintro e w' ⟨rfl, rfl⟩))
  all_goals
    go_ret
    exact ⟨by congr 2; simp only [callB] at *; simp_all; try omega; try (rw [Bool.eq_iff_iff]; simp only [Bool.or_eq_true, Bool.and_eq_true, beq_iff_eq, decide_eq_true_eq]; omega), by (repeat (with_reducible first | exact Below.refl _ _ | assumption | apply below_alloc | apply below_drewN | apply below_drew1 | (refine below_set ?_ (by simp only [alloc_size]; omega)) | (refine below_step ?_ (by assumption))))⟩
end Go.Proofs.Ytikfkkinhipfjaa
