/- Do of a RW. -/
import Derived.Test.YtegjkheecbmioaaFst
import Derived.BigRegion
namespace Go.Proofs.Ytegjkheecbmioaa
open Go.RowKit
set_option linter.unusedVariables false
set_option linter.unusedSimpArgs false

set_option maxRecDepth 100000 in
set_option maxHeartbeats 6400000 in
theorem DoRw_calls (xn xo xh x0 x1 x2 x3 x4 x5 x6 x7 xf xi : Int) (t : Nat) (k v : Int) (ht : t < 8) (hk17 : k ≠ 17) (r : Th × Bool) (HS0 : ∀ w, Calls Try.prog 65 #[(⟨4, xn, xo, xh, x0, x1, x2, x3, x4, x5, x6, x7, xf, xi⟩ : Th).v, .int .i64 t, .int .i64 k, .int .i64 v] w fun e w' => e = .returned (.tuple #[r.1.v, .bool r.2]) ∧ Below w.heap.size w w') (w : World) :
    Calls Try.prog 51 #[(⟨4, xn, xo, xh, x0, x1, x2, x3, x4, x5, x6, x7, xf, xi⟩ : Th).v, .int .i64 t, .agg #[.int .i64 k, .int .i64 v]] w fun e w' => e = .returned (.tuple #[r.1.v, .bool r.2]) ∧ Below w.heap.size w w' := by
  have e0 : decide ((t : Int) < 0) = false := decide_eq_false (by omega)
  have e1 : decide (7 < (t : Int)) = false := decide_eq_false (by omega)
  have e17 : (k == 17) = false := by simpa using hk17
  have HS := Lib.hid HS0
  clear HS0 hk17
  obtain ⟨⟨yk, yn, yo, yh, y0, y1, y2, y3, y4, y5, y6, y7, yf, yi⟩, b⟩ := r
  simp only [thv_eq] at HS ⊢
  go_enter Try.func51, Try.ntmps51
  go_wp2_with fail
  refine (HS.out _).mono ?_
  rintro e w1 ⟨rfl, hb⟩
  have BR := (Bx.new ((w.alloc (.cells #[.int .i64 4, .int .i64 xn, .int .i64 xo, .int .i64 xh, .int .i64 x0, .int .i64 x1, .int .i64 x2, .int .i64 x3, .int .i64 x4, .int .i64 x5, .int .i64 x6, .int .i64 x7, .slice none 0 0, .int .i64 xf, .int .i64 xi] 52)).alloc (.cells #[.int .i64 k, .int .i64 v] 40)) [.int .i64 0, .int .i64 0, .int .i64 0, .int .i64 0, .int .i64 0, .int .i64 0, .int .i64 0, .int .i64 0, .int .i64 0, .int .i64 0, .int .i64 0, .int .i64 0, .slice none 0 0, .int .i64 0, .int .i64 0] 52).below hb
  simp only [alloc_size] at BR
  have HB := Lib.hid (below_step (below_alloc (below_alloc (below_alloc (Below.refl w.heap.size w) _) _) _) hb)
  have r0 := BR.cell 0 _ rfl
  have r1 := BR.cell 1 _ rfl
  have r2 := BR.cell 2 _ rfl
  have r3 := BR.cell 3 _ rfl
  have r4 := BR.cell 4 _ rfl
  have r5 := BR.cell 5 _ rfl
  have r6 := BR.cell 6 _ rfl
  have r7 := BR.cell 7 _ rfl
  have r8 := BR.cell 8 _ rfl
  have r9 := BR.cell 9 _ rfl
  have r10 := BR.cell 10 _ rfl
  have r11 := BR.cell 11 _ rfl
  have r12 := BR.cell 12 _ rfl
  have r13 := BR.cell 13 _ rfl
  have r14 := BR.cell 14 _ rfl
  have fz := fun i => BR.ty.frozen i
  clear hb BR HS
  go_wp2_with fail
  refine bodyPost_ret (v := .tuple #[(⟨yk, yn, yo, yh, y0, y1, y2, y3, y4, y5, y6, y7, yf, yi⟩ : Th).v, .bool b]) ?_ rfl ⟨rfl, ?_⟩
  · simp [results, Try.results51, go_sem, Th.v, r0, r1, r2, r3, r4, r5, r6, r7, r8, r9, r10, r11, r12, r13, r14]
  · have hz : w.heap.size ≤ w.heap.size + 1 + 1 := by omega
    exact (below_set (j := 14) (v := .int .i64 yi) (below_set (j := 13) (v := .int .i64 yf) (below_set (j := 12) (v := .slice none 0 0) (below_set (j := 11) (v := .int .i64 y7) (below_set (j := 10) (v := .int .i64 y6) (below_set (j := 9) (v := .int .i64 y5) (below_set (j := 8) (v := .int .i64 y4) (below_set (j := 7) (v := .int .i64 y3) (below_set (j := 6) (v := .int .i64 y2) (below_set (j := 5) (v := .int .i64 y1) (below_set (j := 4) (v := .int .i64 y0) (below_set (j := 3) (v := .int .i64 yh) (below_set (j := 2) (v := .int .i64 yo) (below_set (j := 1) (v := .int .i64 yn) (below_set (j := 0) (v := .int .i64 yk) HB.out hz) hz) hz) hz) hz) hz) hz) hz) hz) hz) hz) hz) hz) hz) hz)
set_option maxRecDepth 100000 in
set_option maxHeartbeats 3200000 in
theorem doRw_17 (xn xo xh x0 x1 x2 x3 x4 x5 x6 x7 xf xi : Int) (t : Nat) (w : World) (ht : t < 8)   :
    Calls Try.prog 51 #[(⟨4, xn, xo, xh, x0, x1, x2, x3, x4, x5, x6, x7, xf, xi⟩ : Th).v, .int .i64 t, .agg #[.int .i64 17, .int .i64 0]] w fun e w' => e = .returned (.tuple #[(⟨4, xn, xo, xh, x0, x1, x2, x3, x4, x5, x6, x7, xf, xi⟩ : Th).v, .bool true]) ∧ Below w.heap.size w w' := by
  rw [thv_eq]
  have e0 : decide ((t : Int) < 0) = false := decide_eq_false (by omega)
  have e1 : decide (7 < (t : Int)) = false := decide_eq_false (by omega)

  as_aux_lemma =>
  go_enter Try.func51, Try.ntmps51
  go_wp2_with (first | go_region)
  refine bodyPost_ret (v := .tuple #[(⟨4, xn, xo, xh, x0, x1, x2, x3, x4, x5, x6, x7, xf, xi⟩ : Th).v, .bool true]) ?_ rfl ⟨rfl, by (repeat (with_reducible first | exact Below.refl _ _ | assumption | apply below_alloc | apply below_drewN | apply below_drew1 | (refine below_set ?_ (by simp only [alloc_size]; omega)) | (refine below_step ?_ (by assumption))))⟩
  simp [results, Try.results51, go_sem, Th.v]
theorem doRw (x : Th) (hk : x.kind = 4) {t : Nat} (ht : t < 8) {k v : Int} (hk17 : k ≠ 17) {r : Th × Bool} (h : ∀ w, Calls Try.prog 65 #[x.v, .int .i64 t, .int .i64 k, .int .i64 v] w fun e w' => e = .returned (.tuple #[r.1.v, .bool r.2]) ∧ Below w.heap.size w w') : DoIs x t (k, v) r := by
  obtain ⟨xk, xn, xo, xh, x0, x1, x2, x3, x4, x5, x6, x7, xf, xi⟩ := x
  obtain rfl : xk = 4 := hk
  exact fun w => DoRw_calls xn xo xh x0 x1 x2 x3 x4 x5 x6 x7 xf xi t k v ht hk17 r h w
theorem doRw17 (x : Th) (hk : x.kind = 4) {t : Nat} (ht : t < 8) : DoIs x t (17, 0) (x, true) := by
  obtain ⟨xk, xn, xo, xh, x0, x1, x2, x3, x4, x5, x6, x7, xf, xi⟩ := x
  obtain rfl : xk = 4 := hk
  exact fun w => doRw_17 xn xo xh x0 x1 x2 x3 x4 x5 x6 x7 xf xi t w ht
end Go.Proofs.Ytegjkheecbmioaa
