/- The walks of prog's small functions: what each answers. -/
import Derived.Test.YtikfkkinhipfjaaPlain
namespace Go.Proofs.Ytikfkkinhipfjaa
open Go.RowKit
set_option linter.unusedVariables false
set_option linter.unusedSimpArgs false

set_option maxHeartbeats 800000 in
theorem of_calls (k : Int) (w : World) : Calls Try.prog 51 #[.int .i64 k] w fun e w' => e = .returned (.int .i64 (ofI k)) ∧ w = w' := by
  go_enter Try.func51, Try.ntmps51
  go_wp2
  all_goals
    go_ret
    exact ⟨by congr 2; simp only [ofI]; simp_all, rfl⟩
set_option maxHeartbeats 800000 in
theorem waits_calls (k : Int) (w : World) : Calls Try.prog 52 #[.int .i64 k] w fun e w' => e = .returned (.bool (waitsB k)) ∧ w = w' := by
  go_enter Try.func52, Try.ntmps52
  go_wp2
  all_goals
    go_ret
    exact ⟨by congr 2; simp only [waitsB]; simp_all, rfl⟩
set_option maxHeartbeats 800000 in
theorem count_calls (n : Int) (w : World) : Calls Try.prog 49 #[.int .i64 n] w fun e w' => e = .returned (.bool (cntB n)) ∧ w = w' := by
  go_enter Try.func49, Try.ntmps49
  go_wp2
  all_goals
    go_ret
    exact ⟨by congr 2; simp only [cntB]; simp_all; try omega, rfl⟩
set_option maxHeartbeats 800000 in
theorem pick_calls (p : Pk) (w : World) :
    Calls Try.prog 42 #[.agg #[.int .i64 p.kind, .int .i64 p.n]] w fun e w' => e = .returned (.bool (pickB p)) ∧ Below w.heap.size w w' := by
  obtain ⟨k, n⟩ := p
  go_enter Try.func42, Try.ntmps42
  go_wp2
  all_goals
    go_ret
    exact ⟨by congr 2; simp only [pickB]; simp_all; try omega, (Below.refl _ _).alloc (Nat.le_refl _) _⟩
set_option maxHeartbeats 800000 in
theorem object_calls (o : Ob) (w : World) :
    Calls Try.prog 36 #[.agg #[.int .i64 o.kind, .bool o.fair, .int .i64 o.n]] w fun e w' => e = .returned (.bool (objB o)) ∧ Below w.heap.size w w' := by
  obtain ⟨k, f, n⟩ := o
  go_enter Try.func36, Try.ntmps36
  go_wp2_with (go_at_call 49; refine (count_calls _ _).mono ?_; rintro e w' ⟨rfl, rfl⟩)
  all_goals
    go_ret
    exact ⟨by congr 2; simp only [objB, cntB] at *; simp_all; try omega, by (repeat (with_reducible first | exact Below.refl _ _ | assumption | apply below_alloc | apply below_drewN | apply below_drew1 | (refine below_set ?_ (by simp only [alloc_size]; omega)) | (refine below_step ?_ (by assumption))))⟩
set_option maxHeartbeats 1600000 in
theorem call_calls (o : Cl) (m : Int) (w : World) :
    Calls Try.prog 39 #[.agg #[.int .i64 o.kind, .int .i64 o.obj, .int .i64 o.n, .int .i64 o.wait, .bool o.breaks], .int .i64 m] w fun e w' => e = .returned (.bool (callB o m)) ∧ Below w.heap.size w w' := by
  obtain ⟨k, ob, n, wt, br⟩ := o
  go_enter Try.func39, Try.ntmps39
  go_wp2_with (first | (go_at_call 49; refine (count_calls _ _).mono ?_; rintro e w' ⟨rfl, rfl⟩) | (go_at_call 51; refine (of_calls _ _).mono ?_; rintro e w' ⟨rfl, rfl⟩) | (go_at_call 52; refine (waits_calls _ _).mono ?_; rintro e w' ⟨rfl, rfl⟩))
  all_goals
    go_ret
    exact ⟨by congr 2; simp only [callB, cntB] at *; simp_all; try omega, by (repeat (with_reducible first | exact Below.refl _ _ | assumption | apply below_alloc | apply below_drewN | apply below_drew1 | (refine below_set ?_ (by simp only [alloc_size]; omega)) | (refine below_step ?_ (by assumption))))⟩
end Go.Proofs.Ytikfkkinhipfjaa
