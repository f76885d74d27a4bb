/- The walks of package word. -/
import Derived.Test.YtjpllpebnjbgjaaErr
import Derived.Test.YtjpllpebnjbgjaaFlo
namespace Go.Proofs.Ytjpllpebnjbgjaa
open Go.RowKit
set_option linter.unusedVariables false
set_option linter.unusedSimpArgs false

def cntB (n : Int) : Bool := decide (0 ≤ n ∧ n ≤ 1000)
def mayB (v : Int) : Bool := decide (0 ≤ v ∧ v / 65536 ≤ 1000 ∧ v % 65536 ≤ 1000)
set_option maxHeartbeats 800000 in
theorem count_calls (n : Int) (w : World) : Calls Try.prog 15 #[.int .i64 n] w fun e w' => e = .returned (.bool (cntB n)) ∧ w = w' := by
  go_enter Try.func15, Try.ntmps15
  go_wp2
  all_goals
    go_ret
    exact ⟨by congr 2; simp only [cntB]; simp_all; try omega, rfl⟩
def packV (r m : Int) : Int := if cntB r = true ∧ cntB m = true then r * 65536 + m else 0
def packE (r m : Int) : Value := if cntB r = true ∧ cntB m = true then .nilIface else .iface 28 (.int .i64 1)
def readI (v : Int) : Int := if mayB v = true then v / 65536 else 0
def writeI (v : Int) : Int := if mayB v = true then v % 65536 else 0
def moreOk (v r m : Int) : Bool := decide (-1000 ≤ r ∧ r ≤ 1000 ∧ -1000 ≤ m ∧ m ≤ 1000) && cntB (readI v + r) && cntB (writeI v + m)
def moreV (v r m : Int) : Int := if mayB v = true ∧ moreOk v r m = true then (readI v + r) * 65536 + (writeI v + m) else 0
def moreE (v r m : Int) : Value := if mayB v = true then (if moreOk v r m = true then .nilIface else .iface 28 (.int .i64 8)) else .iface 28 (.int .i64 1)
theorem wraps_i64 (n : Int) (h₀ : 0 ≤ n) (h₁ : n < 2 ^ 63) : IntKind.i64.wrap n = n := by rw [IntKind.wrap_i64]; omega
theorem or16 (a m : Int) (h0 : 0 ≤ a) (h1 : a ≤ 1000) (k0 : 0 ≤ m) (k1 : m ≤ 1000) : bits .or .i64 (wrap64 (a * 65536)) m = a * 65536 + m := by
  have e : wrap64 (a * 65536) = a * 65536 := by unfold wrap64; omega
  rw [e]
  exact bits_join .i64 63 (by decide) wraps_i64 16 _ _ (by omega) (by omega) (by omega) k0 (by omega) (by omega)
theorem and16 (v : Int) (h0 : 0 ≤ v) (h1 : v ≤ 9223372036854775807) : bits .and .i64 v 65535 = v % 65536 := bits_mask .i64 63 (by decide) wraps_i64 16 (by decide) v h0 (by omega)
set_option maxHeartbeats 800000 in
theorem pack_calls (r m : Int) (w : World) : Calls Try.prog 8 #[.int .i64 r, .int .i64 m] w fun e w' => e = .returned (.tuple #[.int .i64 (packV r m), packE r m]) ∧ w = w' := by
  by_cases hr : cntB r = true
  · by_cases hm : cntB m = true
    · have e1 := Lib.hid (show packV r m = r * 65536 + m from if_pos ⟨hr, hm⟩)
      have e2 := Lib.hid (show packE r m = .nilIface from if_pos ⟨hr, hm⟩)
      go_enter Try.func8, Try.ntmps8
      go_wp2_with (go_at_call 15; refine (count_calls _ _).mono ?_; rintro e w' ⟨rfl, rfl⟩)
      go_ret2
      refine ⟨?_, rfl⟩
      rw [e1.out, e2.out]
      simp only [cntB, decide_eq_true_eq] at hr hm
      rw [← or16 r m hr.1 hr.2 hm.1 hm.2]
      rfl
    · have e1 := Lib.hid (show packV r m = 0 from if_neg (fun h => hm h.2))
      have e2 := Lib.hid (show packE r m = .iface 28 (.int .i64 1) from if_neg (fun h => hm h.2))
      go_enter Try.func8, Try.ntmps8
      go_wp2_with (go_at_call 15; refine (count_calls _ _).mono ?_; rintro e w' ⟨rfl, rfl⟩)
      go_ret2
      exact ⟨by rw [e1.out, e2.out]; rfl, rfl⟩
  · have e1 := Lib.hid (show packV r m = 0 from if_neg (fun h => hr h.1))
    have e2 := Lib.hid (show packE r m = .iface 28 (.int .i64 1) from if_neg (fun h => hr h.1))
    go_enter Try.func8, Try.ntmps8
    go_wp2_with (go_at_call 15; refine (count_calls _ _).mono ?_; rintro e w' ⟨rfl, rfl⟩)
    go_ret2
    exact ⟨by rw [e1.out, e2.out]; rfl, rfl⟩
set_option maxHeartbeats 800000 in
theorem may_calls (v : Int) (w : World) (hv : v ≤ 9223372036854775807) : Calls Try.prog 11 #[.int .i64 v] w fun e w' => e = .returned (.bool (mayB v)) ∧ w = w' := by
  by_cases h0 : 0 ≤ v
  · have e := Lib.hid (and16 v h0 hv)
    go_enter Try.func11, Try.ntmps11
    go_wp2
    all_goals
      go_ret
      exact ⟨by congr 2; simp only [mayB]; simp_all [e.out]; try omega, rfl⟩
  · go_enter Try.func11, Try.ntmps11
    go_wp2
    go_ret
    exact ⟨by congr 2; simp only [mayB]; simp_all; try omega, rfl⟩
set_option maxHeartbeats 800000 in
theorem readers_calls (v : Int) (w : World) (hv : v ≤ 9223372036854775807) : Calls Try.prog 12 #[.int .i64 v] w fun e w' => e = .returned (.int .i64 (readI v)) ∧ w = w' := by
  by_cases h0 : mayB v = true
  · have e := Lib.hid (show readI v = v / 65536 from if_pos h0)
    have hb : 0 ≤ v ∧ v / 65536 ≤ 1000 := by simp only [mayB, decide_eq_true_eq] at h0; omega
    obtain ⟨hb1, hb2⟩ := hb
    go_enter Try.func12, Try.ntmps12
    go_wp2_with (go_at_call 11; refine (may_calls _ _ hv).mono ?_; rintro e w' ⟨rfl, rfl⟩)
    go_ret
    exact ⟨by rw [e.out]; rfl, rfl⟩
  · have e := Lib.hid (show readI v = 0 from if_neg h0)
    go_enter Try.func12, Try.ntmps12
    go_wp2_with (go_at_call 11; refine (may_calls _ _ hv).mono ?_; rintro e w' ⟨rfl, rfl⟩)
    go_ret
    exact ⟨by rw [e.out]; rfl, rfl⟩
set_option maxHeartbeats 800000 in
theorem writes_calls (v : Int) (w : World) (hv : v ≤ 9223372036854775807) : Calls Try.prog 13 #[.int .i64 v] w fun e w' => e = .returned (.int .i64 (writeI v)) ∧ w = w' := by
  by_cases h0 : mayB v = true
  · have e := Lib.hid (show writeI v = v % 65536 from if_pos h0)
    have hb : 0 ≤ v ∧ v / 65536 ≤ 1000 := by simp only [mayB, decide_eq_true_eq] at h0; omega
    have e2 := Lib.hid (and16 v hb.1 hv)
    go_enter Try.func13, Try.ntmps13
    go_wp2_with (go_at_call 11; refine (may_calls _ _ hv).mono ?_; rintro e w' ⟨rfl, rfl⟩)
    go_ret
    exact ⟨by rw [e.out, ← e2.out]; rfl, rfl⟩
  · have e := Lib.hid (show writeI v = 0 from if_neg h0)
    go_enter Try.func13, Try.ntmps13
    go_wp2_with (go_at_call 11; refine (may_calls _ _ hv).mono ?_; rintro e w' ⟨rfl, rfl⟩)
    go_ret
    exact ⟨by rw [e.out]; rfl, rfl⟩
open Flo in
set_option maxHeartbeats 800000 in
theorem both_calls (v : Int) (w : World) (hv : v ≤ 9223372036854775807) : Calls Try.prog 16 #[.int .i64 v] w fun e w' => e = .returned (.complex .f64 (floatOfInt .f64 (readI v)) (floatOfInt .f64 (writeI v))) ∧ w = w' := by
  go_enter Try.func16, Try.ntmps16
  go_wp2_with (first | (go_at_call 12; refine (readers_calls _ _ hv).mono ?_; rintro e w' ⟨rfl, rfl⟩) | (go_at_call 13; refine (writes_calls _ _ hv).mono ?_; rintro e w' ⟨rfl, rfl⟩))
  go_ret
  exact ⟨rfl, rfl⟩
theorem read_bd (v : Int) : 0 ≤ readI v ∧ readI v ≤ 1000 ∧ 0 ≤ writeI v ∧ writeI v ≤ 1000 := by
  unfold readI writeI mayB
  by_cases h : 0 ≤ v ∧ v / 65536 ≤ 1000 ∧ v % 65536 ≤ 1000
  · simp [h]; omega
  · simp [h]
theorem csum (w : World) (a b c d : Int) (ha : a.natAbs ≤ 2000) (hb : b.natAbs ≤ 2000) (hc : c.natAbs ≤ 2000) (hd : d.natAbs ≤ 2000) :
    (binOp .add 36 (.complex .f64 (floatOfInt .f64 a) (floatOfInt .f64 b)) (.complex .f64 (floatOfInt .f64 c) (floatOfInt .f64 d))).run Try.prog w = .ok (.complex .f64 (floatOfInt .f64 (a + c)) (floatOfInt .f64 (b + d))) w :=
  run_complex_sum w .add (Or.inl rfl) _ .f64 _ _ _ _ _ _ (by unfold cSumBits; rw [Flo.add_small a c ha hc, Flo.add_small b d hb hd]; rfl)
theorem cint (w : World) (c : Int) (hc : c.natAbs ≤ 2000) : (convert 38 3 (.float .f64 (floatOfInt .f64 c))).run Try.prog w = .ok (.int .i64 c) w :=
  run_convert_float_int w _ _ .f64 .i64 _ _ (by kernel_rfl) (by kernel_rfl) (Flo.int_of c hc)
set_option maxHeartbeats 1600000 in
theorem more_calls (v r m : Int) (w : World) (hv : v ≤ 9223372036854775807) : Calls Try.prog 14 #[.int .i64 v, .int .i64 r, .int .i64 m] w fun e w' => e = .returned (.tuple #[.int .i64 (moreV v r m), moreE v r m]) ∧ w = w' := by
  by_cases h0 : mayB v = true
  · by_cases hb : -1000 ≤ r ∧ r ≤ 1000 ∧ -1000 ≤ m ∧ m ≤ 1000
    · have e0 : moreOk v r m = (cntB (readI v + r) && cntB (writeI v + m)) := by unfold moreOk; simp [hb]
      obtain ⟨r0, r1, m0, m1⟩ := hb
      obtain ⟨b0, b1, b2, b3⟩ := read_bd v
      have hsum := fun w => csum w (readI v) (writeI v) r m (by omega) (by omega) (by omega) (by omega)
      have hi1 := fun w => cint w (readI v + r) (by omega)
      have hi2 := fun w => cint w (writeI v + m) (by omega)
      by_cases h1 : cntB (readI v + r) = true ∧ cntB (writeI v + m) = true
      · have e1 := Lib.hid (show moreV v r m = (readI v + r) * 65536 + (writeI v + m) from if_pos ⟨h0, by rw [e0]; simp [h1]⟩)
        have e2 := Lib.hid (show moreE v r m = .nilIface by unfold moreE; rw [if_pos h0, if_pos (by rw [e0]; simp [h1])])
        have e3 := Lib.hid (show packV (readI v + r) (writeI v + m) = (readI v + r) * 65536 + (writeI v + m) from if_pos h1)
        have e4 := Lib.hid (show packE (readI v + r) (writeI v + m) = .nilIface from if_pos h1)
        clear e0 h1
        go_enter Try.func14, Try.ntmps14
        go_wp2_with (first | (go_at_call 11; refine (may_calls _ _ hv).mono ?_; rintro e w' ⟨rfl, rfl⟩) | (go_at_call 16; refine (both_calls _ _ hv).mono ?_; rintro e w' ⟨rfl, rfl⟩) | (go_at_call 8; refine (pack_calls _ _ _).mono ?_; rw [e4.out]; rintro e w' ⟨rfl, rfl⟩))
        go_ret2
        exact ⟨by rw [e1.out, e2.out, ← e3.out]; rfl, rfl⟩
      · have e1 := Lib.hid (show moreV v r m = 0 from if_neg (fun h => h1 (by rw [e0] at h; simpa using h.2)))
        have e2 := Lib.hid (show moreE v r m = .iface 28 (.int .i64 8) by unfold moreE; rw [if_pos h0, if_neg (fun h => h1 (by rw [e0] at h; simpa using h))])
        have e4 := Lib.hid (show packE (readI v + r) (writeI v + m) = .iface 28 (.int .i64 1) from if_neg h1)
        clear e0 h1
        go_enter Try.func14, Try.ntmps14
        go_wp2_with (first | (go_at_call 11; refine (may_calls _ _ hv).mono ?_; rintro e w' ⟨rfl, rfl⟩) | (go_at_call 16; refine (both_calls _ _ hv).mono ?_; rintro e w' ⟨rfl, rfl⟩) | (go_at_call 8; refine (pack_calls _ _ _).mono ?_; rw [e4.out]; rintro e w' ⟨rfl, rfl⟩))
        go_ret2
        exact ⟨by rw [e1.out, e2.out]; rfl, rfl⟩
    · have e1 := Lib.hid (show moreV v r m = 0 from if_neg (fun h => hb (by have := h.2; unfold moreOk at this; simp at this; omega)))
      have e2 := Lib.hid (show moreE v r m = .iface 28 (.int .i64 8) by unfold moreE; rw [if_pos h0, if_neg (fun h => hb (by unfold moreOk at h; simp at h; omega))])
      rcases (show r < -1000 ∨ (-1000 ≤ r ∧ 1000 < r) ∨ (-1000 ≤ r ∧ r ≤ 1000 ∧ m < -1000) ∨ (-1000 ≤ r ∧ r ≤ 1000 ∧ -1000 ≤ m ∧ 1000 < m) by omega) with g | g | g | g
      all_goals
        clear hb
        first | obtain ⟨g1, g2, g3, g4⟩ := g | obtain ⟨g1, g2, g3⟩ := g | obtain ⟨g1, g2⟩ := g | skip
        go_enter Try.func14, Try.ntmps14
        go_wp2_with (go_at_call 11; refine (may_calls _ _ hv).mono ?_; rintro e w' ⟨rfl, rfl⟩)
        go_ret2
        exact ⟨by rw [e1.out, e2.out]; rfl, rfl⟩
  · have e1 := Lib.hid (show moreV v r m = 0 from if_neg (fun h => h0 h.1))
    have e2 := Lib.hid (show moreE v r m = .iface 28 (.int .i64 1) from if_neg h0)
    go_enter Try.func14, Try.ntmps14
    go_wp2_with (go_at_call 11; refine (may_calls _ _ hv).mono ?_; rintro e w' ⟨rfl, rfl⟩)
    go_ret2
    exact ⟨by rw [e1.out, e2.out]; rfl, rfl⟩
end Go.Proofs.Ytjpllpebnjbgjaa
