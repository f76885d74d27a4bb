/- The walks of the model's rows for a RW: how often all read; once less. -/
import Derived.Test.YtegjkheecbmioaaChA
namespace Go.Proofs.Ytegjkheecbmioaa
open Go.RowKit
set_option linter.unusedVariables false
set_option linter.unusedSimpArgs false

def Th.rl (x : Th) : List Int := [x.r0, x.r1, x.r2, x.r3, x.r4, x.r5, x.r6, x.r7]
def sumN (l : List Int) : Nat → Int
  | 0 => 0
  | k + 1 => sumN l k + l.getD k 0
theorem sumN_bd {l : List Int} (hb : ∀ r ∈ l, 0 ≤ r ∧ r ≤ 1000) : ∀ k, k ≤ l.length → 0 ≤ sumN l k ∧ sumN l k ≤ 1000 * k
  | 0, _ => ⟨Int.le_refl _, by simp [sumN]⟩
  | k + 1, h => by
    have ih := sumN_bd hb k (by omega)
    have h1 := hb (l.getD k 0) (by rw [List.getD_eq_getElem?_getD, List.getElem?_eq_getElem (by omega)]; exact List.getElem_mem _)
    simp only [sumN]
    omega
def sum8 (x : Th) : Int := sumN x.rl 8
theorem sum8_eq (x : Th) : sum8 x = x.r0 + x.r1 + x.r2 + x.r3 + x.r4 + x.r5 + x.r6 + x.r7 := by simp [sum8, sumN, Th.rl]
theorem enc_r (x : Th) {k : Nat} (hk : k < 8) : x.enc[4 + k]? = some (.int .i64 (x.rl.getD k 0)) := by
  match k, hk with
  | 0, _ => rfl
  | 1, _ => rfl
  | 2, _ => rfl
  | 3, _ => rfl
  | 4, _ => rfl
  | 5, _ => rfl
  | 6, _ => rfl
  | 7, _ => rfl
set_option maxRecDepth 100000 in
set_option maxHeartbeats 3200000 in
theorem Reads_calls (x : Th) (w : World) (hb : ∀ r ∈ x.rl, 0 ≤ r ∧ r ≤ 1000) : Calls Try.prog 73 #[x.v] w fun e w' => e = .returned (.int .i64 (sum8 x)) ∧ Below w.heap.size w w' := by
  have HX := Lib.hid (Bx.new w x.enc 52)
  have HS := Lib.hid (sumN_bd hb)
  have HE := Lib.hid (fun k (hk : k < 8) => enc_r x hk)
  have HB := Lib.hid hb
  have B0 := Lib.hid (below_alloc (Below.refl w.heap.size w) (.cells x.enc.toArray 52))
  unfold sum8
  generalize hl : x.rl = l at HS HE HB ⊢
  have hl8 : l.length = 8 := by rw [← hl]; rfl
  clear hl hb
  unfold Th.enc at HX B0
  unfold Th.v
  obtain ⟨xk, xn, xo, xh, x0, x1, x2, x3, x4, x5, x6, x7, xf, xi⟩ := x
  dsimp only at HX B0 ⊢
  go_enter Try.func73, Try.ntmps73
  go_upto_region 1 with fail
  change Hid (Bx _ _ _ (w.alloc (.cells #[.int .i64 xk, .int .i64 xn, .int .i64 xo, .int .i64 xh, .int .i64 x0, .int .i64 x1, .int .i64 x2, .int .i64 x3, .int .i64 x4, .int .i64 x5, .int .i64 x6, .int .i64 x7, .slice none 0 0, .int .i64 xf, .int .i64 xi] 52))) at HX
  change Hid (Below _ _ (w.alloc (.cells #[.int .i64 xk, .int .i64 xn, .int .i64 xo, .int .i64 xh, .int .i64 x0, .int .i64 x1, .int .i64 x2, .int .i64 x3, .int .i64 x4, .int .i64 x5, .int .i64 x6, .int .i64 x7, .slice none 0 0, .int .i64 xf, .int .i64 xi] 52))) at B0
  generalize w.alloc (.cells #[.int .i64 xk, .int .i64 xn, .int .i64 xo, .int .i64 xh, .int .i64 x0, .int .i64 x1, .int .i64 x2, .int .i64 x3, .int .i64 x4, .int .i64 x5, .int .i64 x6, .int .i64 x7, .slice none 0 0, .int .i64 xf, .int .i64 xi] 52) = w1 at HX B0 ⊢
  go_wp2_with fail
  go_loopw [3, 4] (fun nv iv wr => ∃ k : Nat, iv = .int .i64 k ∧ k ≤ 8 ∧ nv = .int .i64 (sumN l k) ∧ w1 = wr) (fun _ iv _ => 8 - (intOf iv).toNat)
  case atStart => exact ⟨0, rfl, Nat.zero_le _, rfl, rfl⟩
  case round =>
    obtain ⟨k, rfl, hk, rfl, rfl⟩ := hrel
    have hs := HS.out k (by omega)
    by_cases hlt : k < 8
    · have d0 : decide ((k : Int) < 8) = true := decide_eq_true (by omega)
      have hk0 : (0 : Int) ≤ (k : Int) := by omega
      have hk1 : (k : Int) < 8 := by omega
      have hc := HX.out.cell (4 + k) _ (HE.out k hlt)
      have HN := Lib.hid (show sumN l (k + 1) = sumN l k + l.getD k 0 from rfl)
      have hg := HB.out (l.getD k 0) (by rw [List.getD_eq_getElem?_getD, List.getElem?_eq_getElem (by omega)]; exact List.getElem_mem _)
      generalize l.getD k 0 = a at hc HN hg
      generalize sumN l k = S at hs HN
      have hw : IntKind.i64.wrap (S + a) = S + a := by rw [IntKind.wrap_i64]; omega
      go_wp2_with fail
      go_roundw
      case rel => exact ⟨k + 1, by go_num, by omega, by rw [HN.out], trivial⟩
      case measure => simp [intOf]; omega
    · obtain rfl : k = 8 := by omega
      have d0 : decide (((8 : Nat) : Int) < 8) = false := by decide
      go_wp2_with fail
      go_ret
      exact ⟨rfl, B0.out⟩
set_option maxRecDepth 100000 in
set_option maxHeartbeats 3200000 in
theorem freed_1 (xn xo x0 x1 x2 x3 x4 x5 x6 x7 xf xi : Int) (w : World) : Calls Try.prog 71 #[(⟨4, xn, xo, 1, x0, x1, x2, x3, x4, x5, x6, x7, xf, xi⟩ : Th).v] w fun e w' => e = .returned (⟨4, xn, -1, 0, x0, x1, x2, x3, x4, x5, x6, x7, xf, xi⟩ : Th).v ∧ Below w.heap.size w w' := by
  simp only [thv_eq]
  go_enter Try.func71, Try.ntmps71
  go_wp2_with fail
  refine bodyPost_ret (v := (⟨4, xn, -1, 0, x0, x1, x2, x3, x4, x5, x6, x7, xf, xi⟩ : Th).v) ?_ rfl ⟨rfl, by (repeat (with_reducible first | exact Below.refl _ _ | assumption | apply below_alloc | apply below_drewN | apply below_drew1 | (refine below_set ?_ (by simp only [alloc_size]; omega)) | (refine below_step ?_ (by assumption))))⟩
  simp [results, Try.results71, go_sem, Th.v]
set_option maxRecDepth 100000 in
set_option maxHeartbeats 3200000 in
theorem freed_2 (xn xo xh x0 x1 x2 x3 x4 x5 x6 x7 xf xi : Int) (h1 : 2 ≤ xh) (h2 : xh ≤ 1000) (w : World) : Calls Try.prog 71 #[(⟨4, xn, xo, xh, x0, x1, x2, x3, x4, x5, x6, x7, xf, xi⟩ : Th).v] w fun e w' => e = .returned (⟨4, xn, xo, xh - 1, x0, x1, x2, x3, x4, x5, x6, x7, xf, xi⟩ : Th).v ∧ Below w.heap.size w w' := by
  have a1 : IntKind.i64.wrap (xh - 1) = xh - 1 := by rw [IntKind.wrap_i64]; omega
  have d1 : (xh - 1 == 0) = false := by
    have : ¬ (xh - 1 = 0) := by omega
    simpa using this
  clear h1 h2
  simp only [thv_eq]
  go_enter Try.func71, Try.ntmps71
  go_wp2_with fail
  refine bodyPost_ret (v := (⟨4, xn, xo, xh - 1, x0, x1, x2, x3, x4, x5, x6, x7, xf, xi⟩ : Th).v) ?_ rfl ⟨rfl, by (repeat (with_reducible first | exact Below.refl _ _ | assumption | apply below_alloc | apply below_drewN | apply below_drew1 | (refine below_set ?_ (by simp only [alloc_size]; omega)) | (refine below_step ?_ (by assumption))))⟩
  simp [results, Try.results71, go_sem, Th.v]
end Go.Proofs.Ytegjkheecbmioaa
