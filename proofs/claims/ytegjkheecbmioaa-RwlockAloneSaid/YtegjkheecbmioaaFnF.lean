/- The walk of ref13.Expect, for calls that swap. -/
import Derived.Test.YtegjkheecbmioaaFnE
import Derived.BigRegion
namespace Go.Proofs.Ytegjkheecbmioaa
open Go.RowKit
set_option linter.unusedVariables false
set_option linter.unusedSimpArgs false

theorem nt_own {w : World} {B : Nat} {v : Value} {xs : List (Int × Int)} (h : w.ownsRow B 40 2 v xs.length (xs.flatMap noteEnc)) : ∃ A c, v = .slice A xs.length c ∧ xs.length ≤ c ∧ kNt.C (B ≤ ·) w A xs :=
  C_of_own (enc := noteEnc) (hl := fun _ => rfl) (h1 := by intro x u hu; simp [noteEnc] at hu; rcases hu with rfl | rfl <;> rfl) (h0 := by decide) h (fun k hk => own_base h k hk)
theorem nt_lit {w : World} {cs : Array Value} (xs : List (Int × Int)) (h : cs.toList = xs.flatMap noteEnc) (hl : xs.length ≤ 1000) : kNt.C (w.heap.size ≤ ·) (w.alloc (.cells cs 40)) (some ⟨w.heap.size, 0, none⟩) xs := by
  have hs : cs.size = xs.length * 2 := by
    rw [← Array.length_toList, h]
    exact flat_len (enc := noteEnc) (sz := 2) (fun _ => rfl) xs
  have h1 := World.ownsRow_lit (base := w.heap.size) (size := 2) (e := 40) w cs xs.length (Nat.le_refl _) (by unfold maxLen; omega) hs
  rw [h] at h1
  obtain ⟨A, c, e, _, hc⟩ := nt_own h1
  simp only [Value.slice.injEq] at e
  rw [e.1]
  exact hc
/-- What Expect tells. -/
def ExPost (w0 : World) (y : Th) (want : List (Int × Int)) (val : Int) (e : Ending) (w : World) : Prop := ∃ A c, e = .returned (.tuple #[y.v, .slice A want.length c, .int .i64 val]) ∧ kNt.C (w0.heap.size ≤ ·) w A want ∧ Below w0.heap.size w0 w
set_option maxRecDepth 100000 in
set_option maxHeartbeats 1600000 in
theorem Expect19_calls (x : Th) (t ob n wt : Int) (br : Bool) (w : World) : Calls Try.prog 28 #[x.v, .int .i64 t, opV 19 ob n wt br] w (ExPost w x [(15, n), (16, 0)] 3) := by
  obtain ⟨xk, xn, xo, xh, x0, x1, x2, x3, x4, x5, x6, x7, xf, xi⟩ := x
  unfold opV Th.v
  dsimp only
  go_enter Try.func28, Try.ntmps28
  go_wp2_with (first | go_region)
  refine bodyPost_ret (v := .tuple #[(⟨xk, xn, xo, xh, x0, x1, x2, x3, x4, x5, x6, x7, xf, xi⟩ : Th).v, .slice (some ⟨w.heap.size + 1 + 1 + 1, 0, none⟩) 2 2, .int .i64 3]) ?_ rfl ?_
  · simp [results, Try.results28, go_sem, Th.v]
  · refine ⟨_, _, rfl, ?_, by (repeat (with_reducible first | exact Below.refl _ _ | assumption | apply below_alloc | apply below_drewN | apply below_drew1 | (refine below_set ?_ (by simp only [alloc_size]; omega)) | (refine below_step ?_ (by assumption))))⟩
    have hc := nt_lit (w := ((w.alloc (.cells #[.int .i64 xk, .int .i64 xn, .int .i64 xo, .int .i64 xh, .int .i64 x0, .int .i64 x1, .int .i64 x2, .int .i64 x3, .int .i64 x4, .int .i64 x5, .int .i64 x6, .int .i64 x7, .slice none 0 0, .int .i64 xf, .int .i64 xi] 52)).alloc (.cells #[.int .i64 19, .int .i64 ob, .int .i64 n, .int .i64 wt, .bool br] 33)).alloc (.cells #[.int .i64 xk, .int .i64 xn, .int .i64 xo, .int .i64 xh, .int .i64 x0, .int .i64 x1, .int .i64 x2, .int .i64 x3, .int .i64 x4, .int .i64 x5, .int .i64 x6, .int .i64 x7, .slice none 0 0, .int .i64 xf, .int .i64 xi] 52)) (cs := #[.int .i64 15, .int .i64 n, .int .i64 16, .int .i64 0]) [(15, n), (16, 0)] rfl (by simp)
    simp only [alloc_size] at hc
    exact (hc.mono (fun k hk => by omega)).below (by (repeat (with_reducible first | exact Below.refl _ _ | assumption | apply below_alloc | apply below_drewN | apply below_drew1 | (refine below_set ?_ (by simp only [alloc_size]; omega)) | (refine below_step ?_ (by assumption)))))
end Go.Proofs.Ytegjkheecbmioaa
