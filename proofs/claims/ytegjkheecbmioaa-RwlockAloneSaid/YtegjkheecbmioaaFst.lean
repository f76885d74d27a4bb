/- The walk of ref13.first. -/
import Derived.Test.YtegjkheecbmioaaChA
import Derived.Test.YtegjkheecbmioaaMuf
import Derived.Outline
import Derived.BigRegion
namespace Go.Proofs.Ytegjkheecbmioaa
open Go.RowKit
set_option linter.unusedVariables false
set_option linter.unusedSimpArgs false

theorem Bx.drew1 {o T : Nat} {cs : List Value} {w : World} (h : Bx o T cs w) : Bx o T cs w.drew := ⟨h.ty, h.cell⟩
theorem sets15 {n T : Nat} {w0 w : World} {z0 z1 z2 z3 z4 z5 z6 z7 z8 z9 z10 z11 z12 z13 z14 v0 v1 v2 v3 v4 v5 v6 v7 v8 v9 v10 v11 v12 v13 v14 : Value} (hz : Bx n T [z0, z1, z2, z3, z4, z5, z6, z7, z8, z9, z10, z11, z12, z13, z14] w) (hb : Below n w0 w) :
    Bx n T [v0, v1, v2, v3, v4, v5, v6, v7, v8, v9, v10, v11, v12, v13, v14] (((((((((((((((w.setCell ⟨n, 0, none⟩ v0).setCell ⟨n, 1, none⟩ v1).setCell ⟨n, 2, none⟩ v2).setCell ⟨n, 3, none⟩ v3).setCell ⟨n, 4, none⟩ v4).setCell ⟨n, 5, none⟩ v5).setCell ⟨n, 6, none⟩ v6).setCell ⟨n, 7, none⟩ v7).setCell ⟨n, 8, none⟩ v8).setCell ⟨n, 9, none⟩ v9).setCell ⟨n, 10, none⟩ v10).setCell ⟨n, 11, none⟩ v11).setCell ⟨n, 12, none⟩ v12).setCell ⟨n, 13, none⟩ v13).setCell ⟨n, 14, none⟩ v14) ∧ Below n w0 (((((((((((((((w.setCell ⟨n, 0, none⟩ v0).setCell ⟨n, 1, none⟩ v1).setCell ⟨n, 2, none⟩ v2).setCell ⟨n, 3, none⟩ v3).setCell ⟨n, 4, none⟩ v4).setCell ⟨n, 5, none⟩ v5).setCell ⟨n, 6, none⟩ v6).setCell ⟨n, 7, none⟩ v7).setCell ⟨n, 8, none⟩ v8).setCell ⟨n, 9, none⟩ v9).setCell ⟨n, 10, none⟩ v10).setCell ⟨n, 11, none⟩ v11).setCell ⟨n, 12, none⟩ v12).setCell ⟨n, 13, none⟩ v13).setCell ⟨n, 14, none⟩ v14) :=
  ⟨(((((((((((((((hz.set 0 v0).set 1 v1).set 2 v2).set 3 v3).set 4 v4).set 5 v5).set 6 v6).set 7 v7).set 8 v8).set 9 v9).set 10 v10).set 11 v11).set 12 v12).set 13 v13).set 14 v14), (below_set (j := 14) (v := v14) (below_set (j := 13) (v := v13) (below_set (j := 12) (v := v12) (below_set (j := 11) (v := v11) (below_set (j := 10) (v := v10) (below_set (j := 9) (v := v9) (below_set (j := 8) (v := v8) (below_set (j := 7) (v := v7) (below_set (j := 6) (v := v6) (below_set (j := 5) (v := v5) (below_set (j := 4) (v := v4) (below_set (j := 3) (v := v3) (below_set (j := 2) (v := v2) (below_set (j := 1) (v := v1) (below_set (j := 0) (v := v0) hb (Nat.le_refl n)) (Nat.le_refl n)) (Nat.le_refl n)) (Nat.le_refl n)) (Nat.le_refl n)) (Nat.le_refl n)) (Nat.le_refl n)) (Nat.le_refl n)) (Nat.le_refl n)) (Nat.le_refl n)) (Nat.le_refl n)) (Nat.le_refl n)) (Nat.le_refl n)) (Nat.le_refl n)) (Nat.le_refl n))⟩
/-- What Do answers to a mark. -/
def DoIs (x : Th) (t : Nat) (p : Int × Int) (r : Th × Bool) : Prop := ∀ w, Calls Try.prog 51 #[x.v, .int .i64 t, .agg #[.int .i64 p.1, .int .i64 p.2]] w fun e w' => e = .returned (.tuple #[r.1.v, .bool r.2]) ∧ Below w.heap.size w w'
set_option maxRecDepth 100000 in
set_option maxHeartbeats 25600000 in
theorem First_calls {ok : Nat → Prop} (x : Th) (t : Nat) (l : List (Int × Int)) (D : Int × Int → Th × Bool) (A : Option Addr) (c : Nat) (w : World) (hC : kNt.C ok w A l) (i0 : Nat) (HD : ∀ (j : Nat) p, j ≤ i0 → l[j]? = some p → DoIs x t p (D p)) (p0 : Int × Int) (hp0 : l[i0]? = some p0) (h1 : (D p0).2 = true)
    (hb : ∀ j p, j < i0 → l[j]? = some p → (D p).2 = false) :
    Calls Try.prog 41 #[x.v, .int .i64 t, .slice A l.length c] w fun e w' => e = .returned (.tuple #[(D p0).1.v, .int .i64 i0]) ∧ Below w.heap.size w w' := by
  have HDD := Lib.hid HD
  have HC := Lib.hid hC
  have HP := Lib.hid hp0
  have H1 := Lib.hid h1
  have HB := Lib.hid hb
  have hlt0 : i0 < l.length := (List.getElem?_eq_some_iff.1 hp0).1
  have hlen := hC.len
  clear HD hC hp0 h1 hb
  obtain ⟨xk, xn, xo, xh, x0, x1, x2, x3, x4, x5, x6, x7, xf, xi⟩ := x
  rw [thv_eq]
  go_enter Try.func41, Try.ntmps41
  go_upto_region 1 with fail
  have BX := Lib.hid ((Bx.new w [.int .i64 xk, .int .i64 xn, .int .i64 xo, .int .i64 xh, .int .i64 x0, .int .i64 x1, .int .i64 x2, .int .i64 x3, .int .i64 x4, .int .i64 x5, .int .i64 x6, .int .i64 x7, .slice none 0 0, .int .i64 xf, .int .i64 xi] 52).alloc (.cells #[.int .i64 0, .int .i64 0, .int .i64 0, .int .i64 0, .int .i64 0, .int .i64 0, .int .i64 0, .int .i64 0, .int .i64 0, .int .i64 0, .int .i64 0, .int .i64 0, .slice none 0 0, .int .i64 0, .int .i64 0] 52))
  have BR := Lib.hid (Bx.new (w.alloc (.cells #[.int .i64 xk, .int .i64 xn, .int .i64 xo, .int .i64 xh, .int .i64 x0, .int .i64 x1, .int .i64 x2, .int .i64 x3, .int .i64 x4, .int .i64 x5, .int .i64 x6, .int .i64 x7, .slice none 0 0, .int .i64 xf, .int .i64 xi] 52)) [.int .i64 0, .int .i64 0, .int .i64 0, .int .i64 0, .int .i64 0, .int .i64 0, .int .i64 0, .int .i64 0, .int .i64 0, .int .i64 0, .int .i64 0, .int .i64 0, .slice none 0 0, .int .i64 0, .int .i64 0] 52)
  rw [alloc_size] at BR
  have BB := Lib.hid (below_alloc (below_alloc (Below.refl w.heap.size w) (.cells #[.int .i64 xk, .int .i64 xn, .int .i64 xo, .int .i64 xh, .int .i64 x0, .int .i64 x1, .int .i64 x2, .int .i64 x3, .int .i64 x4, .int .i64 x5, .int .i64 x6, .int .i64 x7, .slice none 0 0, .int .i64 xf, .int .i64 xi] 52)) (.cells #[.int .i64 0, .int .i64 0, .int .i64 0, .int .i64 0, .int .i64 0, .int .i64 0, .int .i64 0, .int .i64 0, .int .i64 0, .int .i64 0, .int .i64 0, .int .i64 0, .slice none 0 0, .int .i64 0, .int .i64 0] 52))
  change Hid (Bx _ _ _ ((w.alloc (.cells #[.int .i64 xk, .int .i64 xn, .int .i64 xo, .int .i64 xh, .int .i64 x0, .int .i64 x1, .int .i64 x2, .int .i64 x3, .int .i64 x4, .int .i64 x5, .int .i64 x6, .int .i64 x7, .slice none 0 0, .int .i64 xf, .int .i64 xi] 52)).alloc (.cells #[.int .i64 0, .int .i64 0, .int .i64 0, .int .i64 0, .int .i64 0, .int .i64 0, .int .i64 0, .int .i64 0, .int .i64 0, .int .i64 0, .int .i64 0, .int .i64 0, .slice none 0 0, .int .i64 0, .int .i64 0] 52))) at BX BR
  generalize (w.alloc (.cells #[.int .i64 xk, .int .i64 xn, .int .i64 xo, .int .i64 xh, .int .i64 x0, .int .i64 x1, .int .i64 x2, .int .i64 x3, .int .i64 x4, .int .i64 x5, .int .i64 x6, .int .i64 x7, .slice none 0 0, .int .i64 xf, .int .i64 xi] 52)).alloc (.cells #[.int .i64 0, .int .i64 0, .int .i64 0, .int .i64 0, .int .i64 0, .int .i64 0, .int .i64 0, .int .i64 0, .int .i64 0, .int .i64 0, .int .i64 0, .int .i64 0, .slice none 0 0, .int .i64 0, .int .i64 0] 52) = w1 at BX BR BB ⊢
  go_wp2_with fail
  go_loopw [8] (fun iv wr => ∃ k : Nat, iv = .int .i64 k ∧ k ≤ i0 ∧ Hid (Bx w.heap.size 52 [.int .i64 xk, .int .i64 xn, .int .i64 xo, .int .i64 xh, .int .i64 x0, .int .i64 x1, .int .i64 x2, .int .i64 x3, .int .i64 x4, .int .i64 x5, .int .i64 x6, .int .i64 x7, .slice none 0 0, .int .i64 xf, .int .i64 xi] wr) ∧ Hid (Bx (w.heap.size + 1) 52 [.int .i64 0, .int .i64 0, .int .i64 0, .int .i64 0, .int .i64 0, .int .i64 0, .int .i64 0, .int .i64 0, .int .i64 0, .int .i64 0, .int .i64 0, .int .i64 0, .slice none 0 0, .int .i64 0, .int .i64 0] wr) ∧ Hid (Below w.heap.size w wr)) (fun iv _ => i0 + 1 - (intOf iv).toNat)
  case atStart => exact ⟨0, rfl, Nat.zero_le _, BX, BR, BB⟩
  case round =>
    clear BX BR BB
    obtain ⟨k, rfl, hk, BX, BR, BB⟩ := hrel
    have d0 : decide ((k : Int) < (l.length : Int)) = true := decide_eq_true (by omega)
    obtain ⟨ad, p, rfl, hp, q0, q1⟩ := at_nt (HC.out.below BB.out) k (by omega)
    have HDo := Lib.hid (HDD.out k p hk hp)
    have HP2 := Lib.hid hp
    obtain ⟨pk, pv⟩ := p
    dsimp only at q0 q1
    clear hp
    generalize hr : D (pk, pv) = r at HDo
    have HR := Lib.hid hr
    clear hr
    obtain ⟨⟨yk, yn, yo, yh, y0, y1, y2, y3, y4, y5, y6, y7, yf, yi⟩, b⟩ := r
    simp only [DoIs, thv_eq] at HDo
    go_upto_region 4 with fail
    have wrs : wr.drew.heap.size = wr.heap.size := rfl
    go_cut [9, 10] from 11 to 29 (fun v9 v10 wx => ∃ g, wr.heap.size ≤ g ∧ v9 = .pointer (some ⟨g, 0, none⟩) ∧ v10 = .bool b ∧ Hid (Bx g 52 (⟨yk, yn, yo, yh, y0, y1, y2, y3, y4, y5, y6, y7, yf, yi⟩ : Th).enc wx) ∧ Hid (Below wr.heap.size wr wx))
    case first =>
      have hk0 : (0 : Int) ≤ (k : Int) := by omega
      have hk1 : (k : Int) < (l.length : Int) := by omega
      refine Muf.region (.q 0 (.q 1 (.q 2 (.q 3 (.q 4 (.q 5 (.fork 6 (.q 7 (.q 8 (.q 9 (.m 10 (.m 11 (.m 12 .nil)))))) 10 (.m 6 (.q 7 (.q 8 (.q 9 (.m 11 (.m 12 .nil)))))))))))) ) [0, 1, 2, 3, 4, 5, 6, 7, 8, 9, 10, 11] (fun w' => Below wr.heap.size wr w') (by kernel_rfl) (by kernel_rfl) (by (repeat (with_reducible first | exact Below.refl _ _ | assumption | apply below_alloc | apply below_drewN | apply below_drew1 | (refine below_set ?_ (by simp only [alloc_size]; omega)) | (refine below_step ?_ (by assumption))))) ?_
      apply Muf.quiet; (· (simp only [List.getElem?_toArray, List.getElem?_cons_succ, List.getElem?_cons_zero]) <;> rfl); (· intro w' hR V hV; have zb := BX.out.below hR; have z0 := zb.cell 0 _ rfl; have z1 := zb.cell 1 _ rfl; have z2 := zb.cell 2 _ rfl; have z3 := zb.cell 3 _ rfl; have z4 := zb.cell 4 _ rfl; have z5 := zb.cell 5 _ rfl; have z6 := zb.cell 6 _ rfl; have z7 := zb.cell 7 _ rfl; have z8 := zb.cell 8 _ rfl; have z9 := zb.cell 9 _ rfl; have z10 := zb.cell 10 _ rfl; have z11 := zb.cell 11 _ rfl; have z12 := zb.cell 12 _ rfl; have z13 := zb.cell 13 _ rfl; have z14 := zb.cell 14 _ rfl; clear zb; go_simp; exact hV); intro K hK; simp only [Act.put, List.setIfInBounds_toArray, List.set_cons_zero, List.set_cons_succ]; refine hK _ ?_; clear hK K
      apply Muf.quiet; (· (simp only [List.getElem?_toArray, List.getElem?_cons_succ, List.getElem?_cons_zero]) <;> rfl); (· intro w' hR V hV; go_simp; exact hV); intro K hK; simp only [Act.put, List.setIfInBounds_toArray, List.set_cons_zero, List.set_cons_succ]; refine hK _ ?_; clear hK K
      apply Muf.quiet; (· (simp only [List.getElem?_toArray, List.getElem?_cons_succ, List.getElem?_cons_zero]) <;> rfl); (· intro w' hR V hV; go_simp; exact hV); intro K hK; simp only [Act.put, List.setIfInBounds_toArray, List.set_cons_zero, List.set_cons_succ]; refine hK _ ?_; clear hK K
      apply Muf.quiet; (· (simp only [List.getElem?_toArray, List.getElem?_cons_succ, List.getElem?_cons_zero]) <;> rfl); (· intro w' hR V hV; go_simp; exact hV); intro K hK; simp only [Act.put, List.setIfInBounds_toArray, List.set_cons_zero, List.set_cons_succ]; refine hK _ ?_; clear hK K
      apply Muf.quiet; (· (simp only [List.getElem?_toArray, List.getElem?_cons_succ, List.getElem?_cons_zero]) <;> rfl); (· intro w' hR V hV; first | (go_simp; exact hV) | (go_simp; rw [if_pos ⟨hk0, hk1⟩]; exact hV)); intro K hK; simp only [Act.put, List.setIfInBounds_toArray, List.set_cons_zero, List.set_cons_succ]; refine hK _ ?_; clear hK K
      apply Muf.quiet; (· (simp only [List.getElem?_toArray, List.getElem?_cons_succ, List.getElem?_cons_zero]) <;> rfl); (· intro w' hR V hV; have ha := at_nt (HC.out.below (below_step BB.out hR)) k (by omega); obtain ⟨ad2, p2, e2, hp2, s0, s1⟩ := ha; obtain rfl := Option.some.inj e2; obtain rfl := Option.some.inj (HP2.out.symm.trans hp2); dsimp only at s0 s1; clear hp2; go_simp; exact hV); intro K hK; simp only [Act.put, List.setIfInBounds_toArray, List.set_cons_zero, List.set_cons_succ]; refine hK _ ?_; clear hK K
      clear q0 q1 hk0 hk1 d0
      refine Muf.fork ?_ ?_
      · refine Muf.chk rfl (by decide) ?_
        go_wp2_with fail
        refine (HDo.out _).mono ?_
        rintro e w6 ⟨rfl, hb6⟩
        have HB6 := Lib.hid (below_step (show Below wr.heap.size wr wr.drew by (repeat (with_reducible first | exact Below.refl _ _ | assumption | apply below_alloc | apply below_drewN | apply below_drew1 | (refine below_set ?_ (by simp only [alloc_size]; omega)) | (refine below_step ?_ (by assumption))))) hb6)
        clear hb6
        go_wp2_with fail
        refine ⟨HB6.out, ?_⟩
        apply Muf.quiet; (· (simp only [List.getElem?_toArray, List.getElem?_cons_succ, List.getElem?_cons_zero]) <;> rfl); (· intro w' hR V hV; go_simp; exact hV); intro K hK; simp only [Act.put, List.setIfInBounds_toArray, List.set_cons_zero, List.set_cons_succ]; refine hK _ ?_; clear hK K
        apply Muf.quiet; (· (simp only [List.getElem?_toArray, List.getElem?_cons_succ, List.getElem?_cons_zero]) <;> rfl); (· intro w' hR V hV; go_simp; exact hV); intro K hK; simp only [Act.put, List.setIfInBounds_toArray, List.set_cons_zero, List.set_cons_succ]; refine hK _ ?_; clear hK K
        apply Muf.quiet; (· (simp only [List.getElem?_toArray, List.getElem?_cons_succ, List.getElem?_cons_zero]) <;> rfl); (· intro w' hR V hV; go_simp; exact hV); intro K hK; simp only [Act.put, List.setIfInBounds_toArray, List.set_cons_zero, List.set_cons_succ]; refine hK _ ?_; clear hK K
        refine Muf.mover (Muf.chk rfl (by decide) ?_)
        go_wp2_with fail
        refine ⟨below_alloc HB6.out _, ?_⟩
        refine Muf.mover (Muf.chk rfl (by decide) ?_)
        go_wp2_with fail
        refine ⟨below_alloc HB6.out _, ?_⟩
        refine Muf.mover (Muf.bare rfl (by decide) ?_)
        go_wp2_with fail
        refine Muf.done ?_
        go_wp2_with fail
        go_meet
        exact ⟨w6.heap.size, HB6.out.size, rfl, rfl, Lib.hid (Bx.new w6 [.int .i64 yk, .int .i64 yn, .int .i64 yo, .int .i64 yh, .int .i64 y0, .int .i64 y1, .int .i64 y2, .int .i64 y3, .int .i64 y4, .int .i64 y5, .int .i64 y6, .int .i64 y7, .slice none 0 0, .int .i64 yf, .int .i64 yi] _), Lib.hid (below_alloc HB6.out _)⟩
      · refine Muf.chk rfl (by decide) ?_
        go_wp2_with fail
        refine ⟨by (repeat (with_reducible first | exact Below.refl _ _ | assumption | apply below_alloc | apply below_drewN | apply below_drew1 | (refine below_set ?_ (by simp only [alloc_size]; omega)) | (refine below_step ?_ (by assumption)))), ?_⟩
        have HZ := Lib.hid (Bx.drew1 (Bx.new wr [.int .i64 0, .int .i64 0, .int .i64 0, .int .i64 0, .int .i64 0, .int .i64 0, .int .i64 0, .int .i64 0, .int .i64 0, .int .i64 0, .int .i64 0, .int .i64 0, .slice none 0 0, .int .i64 0, .int .i64 0] 52))
        have HBZ := Lib.hid (show Below wr.heap.size wr (wr.alloc (.cells #[.int .i64 0, .int .i64 0, .int .i64 0, .int .i64 0, .int .i64 0, .int .i64 0, .int .i64 0, .int .i64 0, .int .i64 0, .int .i64 0, .int .i64 0, .int .i64 0, .slice none 0 0, .int .i64 0, .int .i64 0] 52)).drew by (repeat (with_reducible first | exact Below.refl _ _ | assumption | apply below_alloc | apply below_drewN | apply below_drew1 | (refine below_set ?_ (by simp only [alloc_size]; omega)) | (refine below_step ?_ (by assumption)))))
        refine Muf.mover (Muf.chk rfl (by decide) ?_)
        go_wp2_with fail
        refine (HDo.out _).mono ?_
        rintro e w6 ⟨rfl, hb6⟩
        have HB6 := Lib.hid (below_step HBZ.out hb6)
        have HZ6 := Lib.hid (HZ.out.below hb6)
        clear hb6 HZ HBZ
        go_wp2_with fail
        refine ⟨HB6.out, ?_⟩
        apply Muf.quiet; (· (simp only [List.getElem?_toArray, List.getElem?_cons_succ, List.getElem?_cons_zero]) <;> rfl); (· intro w' hR V hV; go_simp; exact hV); intro K hK; simp only [Act.put, List.setIfInBounds_toArray, List.set_cons_zero, List.set_cons_succ]; refine hK _ ?_; clear hK K
        apply Muf.quiet; (· (simp only [List.getElem?_toArray, List.getElem?_cons_succ, List.getElem?_cons_zero]) <;> rfl); (· intro w' hR V hV; go_simp; exact hV); intro K hK; simp only [Act.put, List.setIfInBounds_toArray, List.set_cons_zero, List.set_cons_succ]; refine hK _ ?_; clear hK K
        apply Muf.quiet; (· (simp only [List.getElem?_toArray, List.getElem?_cons_succ, List.getElem?_cons_zero]) <;> rfl); (· intro w' hR V hV; go_simp; exact hV); intro K hK; simp only [Act.put, List.setIfInBounds_toArray, List.set_cons_zero, List.set_cons_succ]; refine hK _ ?_; clear hK K
        have zb := HZ6.out
        have z0 := zb.cell 0 _ rfl
        have z1 := zb.cell 1 _ rfl
        have z2 := zb.cell 2 _ rfl
        have z3 := zb.cell 3 _ rfl
        have z4 := zb.cell 4 _ rfl
        have z5 := zb.cell 5 _ rfl
        have z6 := zb.cell 6 _ rfl
        have z7 := zb.cell 7 _ rfl
        have z8 := zb.cell 8 _ rfl
        have z9 := zb.cell 9 _ rfl
        have z10 := zb.cell 10 _ rfl
        have z11 := zb.cell 11 _ rfl
        have z12 := zb.cell 12 _ rfl
        have z13 := zb.cell 13 _ rfl
        have z14 := zb.cell 14 _ rfl
        have fz := fun i => zb.ty.frozen i
        clear zb
        refine Muf.mover (Muf.chk rfl (by decide) ?_)
        go_wp2_with fail
        refine ⟨(sets15 HZ6.out HB6.out).2, ?_⟩
        refine Muf.mover (Muf.bare rfl (by decide) ?_)
        go_wp2_with fail
        refine Muf.done ?_
        go_wp2_with fail
        go_meet
        exact ⟨wr.heap.size, Nat.le_refl _, rfl, rfl, Lib.hid (sets15 HZ6.out HB6.out).1, Lib.hid (sets15 HZ6.out HB6.out).2⟩
    case rest =>
      obtain ⟨g, hgl0, rfl, rfl, HG, HBg⟩ := hcut
      have BX2 := Lib.hid (BX.out.below HBg.out)
      have BR2 := Lib.hid (BR.out.below HBg.out)
      have BB2 := Lib.hid (below_step BB.out HBg.out)
      by_cases hki : k < i0
      · have hbf := HB.out k _ hki HP2.out
        rw [HR.out] at hbf
        have hbf : b = false := hbf
        subst hbf
        clear BX BR BB HBg HG
        go_wp2_with fail
        go_roundw
        case rel => exact ⟨k + 1, by go_num, by omega, BX2, BR2, BB2⟩
        case measure => simp [intOf]; omega
      · obtain rfl : k = i0 := by omega
        obtain rfl : (pk, pv) = p0 := Option.some.inj (HP2.out.symm.trans HP.out)
        have hbf := H1.out
        rw [HR.out] at hbf
        have hbf : b = true := hbf
        subst hbf
        have hbr := BR.out.ty.lt
        have hgl := HG.out.ty.lt
        have hgr : g ≠ w.heap.size + 1 := by omega
        have hgr' := hgr.symm
        have g0 := HG.out.cell 0 _ rfl
        have r0 := BR2.out.cell 0 _ rfl
        have g1 := HG.out.cell 1 _ rfl
        have r1 := BR2.out.cell 1 _ rfl
        have g2 := HG.out.cell 2 _ rfl
        have r2 := BR2.out.cell 2 _ rfl
        have g3 := HG.out.cell 3 _ rfl
        have r3 := BR2.out.cell 3 _ rfl
        have g4 := HG.out.cell 4 _ rfl
        have r4 := BR2.out.cell 4 _ rfl
        have g5 := HG.out.cell 5 _ rfl
        have r5 := BR2.out.cell 5 _ rfl
        have g6 := HG.out.cell 6 _ rfl
        have r6 := BR2.out.cell 6 _ rfl
        have g7 := HG.out.cell 7 _ rfl
        have r7 := BR2.out.cell 7 _ rfl
        have g8 := HG.out.cell 8 _ rfl
        have r8 := BR2.out.cell 8 _ rfl
        have g9 := HG.out.cell 9 _ rfl
        have r9 := BR2.out.cell 9 _ rfl
        have g10 := HG.out.cell 10 _ rfl
        have r10 := BR2.out.cell 10 _ rfl
        have g11 := HG.out.cell 11 _ rfl
        have r11 := BR2.out.cell 11 _ rfl
        have g12 := HG.out.cell 12 _ rfl
        have r12 := BR2.out.cell 12 _ rfl
        have g13 := HG.out.cell 13 _ rfl
        have r13 := BR2.out.cell 13 _ rfl
        have g14 := HG.out.cell 14 _ rfl
        have r14 := BR2.out.cell 14 _ rfl
        have fz := fun i => BR2.out.ty.frozen i
        clear BX BR BB HBg
        have hz1 : w.heap.size ≤ w.heap.size + 1 := by omega
        go_wp2_with fail
        rw [HR.out]
        refine bodyPost_ret (v := .tuple #[(⟨yk, yn, yo, yh, y0, y1, y2, y3, y4, y5, y6, y7, yf, yi⟩ : Th).v, .int .i64 k]) ?_ rfl ⟨rfl, ?_⟩
        · simp [results, Try.results41, go_sem, Th.v, r0, r1, r2, r3, r4, r5, r6, r7, r8, r9, r10, r11, r12, r13, r14]
        · exact (below_set (j := 14) (v := .int .i64 yi) (below_set (j := 13) (v := .int .i64 yf) (below_set (j := 12) (v := .slice none 0 0) (below_set (j := 11) (v := .int .i64 y7) (below_set (j := 10) (v := .int .i64 y6) (below_set (j := 9) (v := .int .i64 y5) (below_set (j := 8) (v := .int .i64 y4) (below_set (j := 7) (v := .int .i64 y3) (below_set (j := 6) (v := .int .i64 y2) (below_set (j := 5) (v := .int .i64 y1) (below_set (j := 4) (v := .int .i64 y0) (below_set (j := 3) (v := .int .i64 yh) (below_set (j := 2) (v := .int .i64 yo) (below_set (j := 1) (v := .int .i64 yn) (below_set (j := 0) (v := .int .i64 yk) BB2.out hz1) hz1) hz1) hz1) hz1) hz1) hz1) hz1) hz1) hz1) hz1) hz1) hz1) hz1) hz1)
end Go.Proofs.Ytegjkheecbmioaa
