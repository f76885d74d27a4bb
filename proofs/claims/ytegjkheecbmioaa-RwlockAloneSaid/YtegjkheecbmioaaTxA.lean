/- Walks of the reference's small functions on strings. -/
import Derived.Test.YtegjkheecbmioaaTx
namespace Go.Proofs.Ytegjkheecbmioaa
open Go.RowKit
set_option linter.unusedVariables false
set_option linter.unusedSimpArgs false

set_option maxHeartbeats 800000 in
theorem name_calls (s : ByteArray) (w : World) (hs : s.size ≤ maxLen) : Calls Try.prog 59 #[.string s] w fun e w' => e = .returned (.bool (nameB (nb s))) ∧ w = w' := by
  unfold maxLen at hs
  by_cases h1 : s.size < 1
  · have h1' : decide ((s.size : Int) < 1) = true := decide_eq_true (by omega)
    have hv : nameB (nb s) = false := by
      have : nb s = [] := List.length_eq_zero_iff.1 (by rw [nb_len]; omega)
      rw [this]; rfl
    rw [hv]
    clear hv
    go_enter Try.func59, Try.ntmps59
    go_wp2
    go_ret
    exact ⟨rfl, rfl⟩
  have h1' : decide ((s.size : Int) < 1) = false := decide_eq_false (by omega)
  have h0 : 0 < s.size := by omega
  obtain ⟨x, l, hxl⟩ : ∃ x l, nb s = x :: l := by
    cases h : nb s with
    | nil => have := nb_len s; rw [h] at this; simp at this; omega
    | cons x l => exact ⟨x, l, rfl⟩
  have hx : s[0].toNat = x := by
    have := nb_get s 0 h0
    rw [hxl] at this
    simpa using this.symm
  have hlen := nb_len s
  by_cases h2 : 24 < s.size
  · have h2' : decide (24 < (s.size : Int)) = true := decide_eq_true (by omega)
    have hv : nameB (nb s) = false := by
      rw [hxl] at hlen ⊢
      simp only [nameB]
      rw [decide_eq_false (by omega)]; rfl
    rw [hv]
    clear hv hxl hlen hx
    go_enter Try.func59, Try.ntmps59
    go_wp2
    go_ret
    exact ⟨rfl, rfl⟩
  have h2' : decide (24 < (s.size : Int)) = false := decide_eq_false (by omega)
  by_cases h3 : s[0].toNat < 97
  · have h3' : decide ((s[0].toNat : Int) < 97) = true := decide_eq_true (by omega)
    have hv : nameB (nb s) = false := by
      rw [hxl]
      simp only [nameB]
      rw [decide_eq_false (p := 97 ≤ x) (by omega)]; simp
    rw [hv]
    clear hv hxl hlen hx
    go_enter Try.func59, Try.ntmps59
    go_wp2
    go_ret
    exact ⟨rfl, rfl⟩
  have h3' : decide ((s[0].toNat : Int) < 97) = false := decide_eq_false (by omega)
  by_cases h4 : 122 < s[0].toNat
  · have h4' : decide (122 < (s[0].toNat : Int)) = true := decide_eq_true (by omega)
    have hv : nameB (nb s) = false := by
      rw [hxl]
      simp only [nameB]
      rw [decide_eq_false (p := x ≤ 122) (by omega)]; simp
    rw [hv]
    clear hv hxl hlen hx
    go_enter Try.func59, Try.ntmps59
    go_wp2
    go_ret
    exact ⟨rfl, rfl⟩
  have h4' : decide (122 < (s[0].toNat : Int)) = false := decide_eq_false (by omega)
  have hv : nameB (nb s) = (nb s).all ncB := by
    rw [hxl] at hlen ⊢
    simp only [nameB]
    rw [decide_eq_true (by omega), decide_eq_true (p := 97 ≤ x) (by omega), decide_eq_true (p := x ≤ 122) (by omega)]; rfl
  rw [hv]
  clear hv hxl hlen hx
  go_enter Try.func59, Try.ntmps59
  go_wp2
  go_loop [3] (fun i => ∃ k : Nat, k ≤ s.size ∧ i = .int .i64 k ∧ ((nb s).take k).all ncB = true) (fun i => s.size - (intOf i).toNat)
  case atStart => exact ⟨0, Nat.zero_le _, rfl, rfl⟩
  case round =>
    obtain ⟨k, hk, rfl, ha⟩ := hrel
    have HA := Lib.hid ha
    clear ha
    by_cases hlt : k < s.size
    · have hg := Lib.hid (nb_get s k hlt)
      go_wp2
      all_goals first
        | (go_ret; exact ⟨ret_bool (all_hit hg.out (by rw [ncB_eq]; apply decide_eq_false; simp only [Bool.not_eq_true', decide_eq_false_iff_not, beq_eq_false_iff_ne] at *; omega)).symm, rfl⟩)
        | (go_round; (case rel => exact ⟨k + 1, by omega, by go_num, all_step hg.out HA.out (by rw [ncB_eq]; apply decide_eq_true; simp only [Bool.not_eq_false', decide_eq_true_eq, beq_iff_eq] at *; omega)⟩); (case measure => simp [intOf]; omega))
    · go_wp2
      go_ret
      exact ⟨ret_bool (by rw [← HA.out, List.take_of_length_le (by rw [nb_len]; omega)]), rfl⟩
end Go.Proofs.Ytegjkheecbmioaa
