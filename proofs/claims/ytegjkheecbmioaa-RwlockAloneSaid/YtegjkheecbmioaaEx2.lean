/- What Expect tells, by which mark may be done first. -/
import Derived.Test.YtegjkheecbmioaaExp
namespace Go.Proofs.Ytegjkheecbmioaa
open Go.RowKit
set_option linter.unusedVariables false
set_option linter.unusedSimpArgs false

theorem exp_1 {x y : Th} {t : Nat} {k n : Int} {p0 : Int × Int} {tl : List (Int × Int)} {v0 : Int} {vs : List Int} (hk : 4 ≤ k ∧ k ≤ 15) (h0 : 0 ≤ x.n) (h1 : x.n ≤ 1000) (hN : chN k n x.n = p0 :: tl) (hR : chR k x.n = v0 :: vs) (hD : DoIs x t p0 (y, true)) (ob wt : Int) (br : Bool) (w : World) :
    Calls Try.prog 28 #[x.v, .int .i64 t, opV k ob n wt br] w (ExPost w y [p0] v0) :=
  Expect_calls x t k ob n wt br h0 h1 hk (fun _ => (y, true)) 0 (fun j p hj hp => by
    obtain rfl : j = 0 := by omega
    rw [hN] at hp
    obtain rfl := Option.some.inj hp
    exact hD) p0 (by rw [hN]; rfl) rfl (fun j p hj => absurd hj (Nat.not_lt_zero j)) v0 (by rw [hR]; rfl) w
theorem exp_2 {x y x0 : Th} {t : Nat} {k n : Int} {p0 p1 : Int × Int} {tl : List (Int × Int)} {v0 v1 : Int} {vs : List Int} (hk : 4 ≤ k ∧ k ≤ 15) (h0 : 0 ≤ x.n) (h1 : x.n ≤ 1000) (hN : chN k n x.n = p0 :: p1 :: tl) (hR : chR k x.n = v0 :: v1 :: vs) (hne : p1 ≠ p0) (hD0 : DoIs x t p0 (x0, false)) (hD1 : DoIs x t p1 (y, true)) (ob wt : Int) (br : Bool) (w : World) :
    Calls Try.prog 28 #[x.v, .int .i64 t, opV k ob n wt br] w (ExPost w y [p1] v1) := by
  have := Expect_calls x t k ob n wt br h0 h1 hk (fun p => if p = p0 then (x0, false) else (y, true)) 1 (fun j p hj hp => by
    rw [hN] at hp
    match j, hj with
    | 0, _ =>
      obtain rfl := Option.some.inj hp
      rw [if_pos rfl]; exact hD0
    | 1, _ =>
      obtain rfl := Option.some.inj hp
      rw [if_neg hne]; exact hD1) p1 (by rw [hN]; rfl) (by rw [if_neg hne]) (fun j p hj hp => by
    obtain rfl : j = 0 := by omega
    rw [hN] at hp
    obtain rfl := Option.some.inj hp
    rw [if_pos rfl]) v1 (by rw [hR]; rfl) w
  rw [if_neg hne] at this
  exact this
theorem exp_3 {x y x0 x1 : Th} {t : Nat} {k n : Int} {p0 p1 p2 : Int × Int} {tl : List (Int × Int)} {v0 v1 v2 : Int} {vs : List Int} (hk : 4 ≤ k ∧ k ≤ 15) (h0 : 0 ≤ x.n) (h1 : x.n ≤ 1000) (hN : chN k n x.n = p0 :: p1 :: p2 :: tl) (hR : chR k x.n = v0 :: v1 :: v2 :: vs) (hn10 : p1 ≠ p0) (hn20 : p2 ≠ p0) (hn21 : p2 ≠ p1)
    (hD0 : DoIs x t p0 (x0, false)) (hD1 : DoIs x t p1 (x1, false)) (hD2 : DoIs x t p2 (y, true)) (ob wt : Int) (br : Bool) (w : World) :
    Calls Try.prog 28 #[x.v, .int .i64 t, opV k ob n wt br] w (ExPost w y [p2] v2) := by
  have := Expect_calls x t k ob n wt br h0 h1 hk (fun p => if p = p0 then (x0, false) else if p = p1 then (x1, false) else (y, true)) 2 (fun j p hj hp => by
    rw [hN] at hp
    match j, hj with
    | 0, _ =>
      obtain rfl := Option.some.inj hp
      rw [if_pos rfl]; exact hD0
    | 1, _ =>
      obtain rfl := Option.some.inj hp
      rw [if_neg hn10, if_pos rfl]; exact hD1
    | 2, _ =>
      obtain rfl := Option.some.inj hp
      rw [if_neg hn20, if_neg hn21]; exact hD2) p2 (by rw [hN]; rfl) (by rw [if_neg hn20, if_neg hn21]) (fun j p hj hp => by
    rw [hN] at hp
    match j, hj with
    | 0, _ =>
      obtain rfl := Option.some.inj hp
      rw [if_pos rfl]
    | 1, _ =>
      obtain rfl := Option.some.inj hp
      rw [if_neg hn10, if_pos rfl]) v2 (by rw [hR]; rfl) w
  rw [if_neg hn20, if_neg hn21] at this
  exact this
end Go.Proofs.Ytegjkheecbmioaa
