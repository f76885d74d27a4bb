/- The walks of ProgKinds and ProgWaiters. -/
import Derived.Test.YtmadkjmjohfkgaaScrD
namespace Go.Proofs.Ytmadkjmjohfkgaa
open Go.RowKit
set_option linter.unusedVariables false
set_option linter.unusedSimpArgs false

set_option maxHeartbeats 800000 in
theorem rwaits_calls (k : Int) (w : World) : Calls Try.prog 8 #[.int .i64 k] w fun e w' => e = .returned (.bool (waitsB k)) ∧ w = w' := by
  go_enter Try.func8, Try.ntmps8
  go_wp2
  all_goals
    go_ret
    exact ⟨by congr 2; simp only [waitsB]; simp_all; try (rw [Bool.eq_iff_iff]; simp_all), rfl⟩
set_option maxHeartbeats 800000 in
theorem kinds_calls (k : Int) (w : World) (_ : (Lit.int .i64 k).wf = true) : Calls Try.prog 3 #[.int .i64 k] w fun e w' => e = .returned (.bool true) ∧ Below w.heap.size w w' := by
  go_enter Try.func3, Try.ntmps3
  go_wp2_with (first | (go_at_call 6; refine (up05_calls _).mono ?_; rintro e w' ⟨rfl, hb1⟩) | (go_at_call 7; refine (waits_calls _ _).mono ?_; rintro e w' ⟨rfl, rfl⟩) | (go_at_call 8; refine (rwaits_calls _ _).mono ?_; rintro e w' ⟨rfl, rfl⟩) | (go_at_call 9; refine (of_calls _ _).mono ?_; rintro e w' ⟨rfl, rfl⟩) | (go_at_call 10; refine (rof_calls _ _).mono ?_; rintro e w' ⟨rfl, hb2⟩))
  all_goals
    go_ret
    exact ⟨rfl, by (repeat (first | exact Below.refl _ _ | assumption | apply below_alloc | apply below_drewN | apply below_drew1 | (refine below_step ?_ (by assumption))))⟩
theorem of_bd (k : Int) : 0 ≤ ofI k ∧ ofI k ≤ 5 := by unfold ofI; (repeat' split) <;> omega
theorem of_iff (k : Int) : ofI k ≠ 0 ↔ (1 ≤ k ∧ k ≤ 19) := by unfold ofI; (repeat' split) <;> omega
theorem of_wt (k : Int) (h : ofI k = 0) : waitsB k = false := by
  have := of_iff k
  simp only [waitsB, decide_eq_false_iff_not]
  omega
set_option maxHeartbeats 800000 in
theorem waiters_calls (k : Int) (w : World) (_ : (Lit.int .i64 k).wf = true) : Calls Try.prog 5 #[.int .i64 k] w fun e w' => e = .returned (.bool true) ∧ Below w.heap.size w w' := by
  have b1 := of_bd k
  obtain ⟨b1, b1'⟩ := b1
  have b2 := Lib.hid (of_iff k)
  have b3 := Lib.hid (of_wt k)
  by_cases hz0 : ofI k = 0
  · have hz : (ofI k != 0) = false := by simpa using hz0
    have hw0 := b3.out hz0
    have hn : ¬ (1 ≤ k ∧ k ≤ 19) := fun h => (b2.out.2 h) hz0
    clear hz0
    by_cases h1 : 1 ≤ k
    · have h2 : 19 < k := by omega
      have h2' : decide (k ≤ 19) = false := by simpa using h2
      clear hn
      go_enter Try.func5, Try.ntmps5
      go_wp2_with (first | (go_at_call 6; refine (up05_calls _).mono ?_; rintro e w' ⟨rfl, hb1⟩) | (go_at_call 7; refine (waits_calls _ _).mono ?_; rintro e w' ⟨rfl, rfl⟩) | (go_at_call 9; refine (of_calls _ _).mono ?_; rintro e w' ⟨rfl, rfl⟩))
      go_ret
      exact ⟨by first | rfl | (simp; omega), by (repeat (first | exact Below.refl _ _ | assumption | apply below_alloc | apply below_drewN | apply below_drew1 | (refine below_step ?_ (by assumption))))⟩
    · have h2 : k < 1 := by omega
      clear hn h1
      go_enter Try.func5, Try.ntmps5
      go_wp2_with (first | (go_at_call 6; refine (up05_calls _).mono ?_; rintro e w' ⟨rfl, hb1⟩) | (go_at_call 7; refine (waits_calls _ _).mono ?_; rintro e w' ⟨rfl, rfl⟩) | (go_at_call 9; refine (of_calls _ _).mono ?_; rintro e w' ⟨rfl, rfl⟩))
      go_ret
      exact ⟨rfl, by (repeat (first | exact Below.refl _ _ | assumption | apply below_alloc | apply below_drewN | apply below_drew1 | (refine below_step ?_ (by assumption))))⟩
  · have hz : (ofI k != 0) = true := by simpa using hz0
    have hn := b2.out.1 hz0
    obtain ⟨h1, h2⟩ := hn
    clear hz0
    go_enter Try.func5, Try.ntmps5
    go_wp2_with (first | (go_at_call 6; refine (up05_calls _).mono ?_; rintro e w' ⟨rfl, hb1⟩) | (go_at_call 7; refine (waits_calls _ _).mono ?_; rintro e w' ⟨rfl, rfl⟩) | (go_at_call 9; refine (of_calls _ _).mono ?_; rintro e w' ⟨rfl, rfl⟩))
    go_ret
    exact ⟨rfl, by (repeat (first | exact Below.refl _ _ | assumption | apply below_alloc | apply below_drewN | apply below_drew1 | (refine below_step ?_ (by assumption))))⟩
end Go.Proofs.Ytmadkjmjohfkgaa
