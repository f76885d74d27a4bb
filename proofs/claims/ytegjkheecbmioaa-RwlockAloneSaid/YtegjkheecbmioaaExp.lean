/- The walk of ref13.Expect, for the kinds 4 to 15. -/
import Derived.Test.YtegjkheecbmioaaFst
import Derived.Test.YtegjkheecbmioaaMuf
import Derived.Outline
namespace Go.Proofs.Ytegjkheecbmioaa
open Go.RowKit
set_option linter.unusedVariables false
set_option linter.unusedSimpArgs false

set_option maxRecDepth 100000 in
set_option maxHeartbeats 6400000 in
theorem Expect_calls (x : Th) (t : Nat) (k ob n wt : Int) (br : Bool) (h0 : 0 ≤ x.n) (h1 : x.n ≤ 1000) (hk : 4 ≤ k ∧ k ≤ 15) (D : Int × Int → Th × Bool) (i0 : Nat) (HD : ∀ j p, j ≤ i0 → (chN k n x.n)[j]? = some p → DoIs x t p (D p)) (p0 : Int × Int) (hp0 : (chN k n x.n)[i0]? = some p0) (hd : (D p0).2 = true)
    (hb : ∀ j p, j < i0 → (chN k n x.n)[j]? = some p → (D p).2 = false) (val : Int) (hv : (chR k x.n)[i0]? = some val) (w : World) :
    Calls Try.prog 28 #[x.v, .int .i64 t, opV k ob n wt br] w (ExPost w (D p0).1 [p0] val) := by
  have HC := Lib.hid (fun w => Choices_calls x k ob n wt br w h0 h1 hk)
  have HF := Lib.hid (fun (ok : Nat → Prop) (A : Option Addr) (c : Nat) (w : World) (hC : kNt.C ok w A (chN k n x.n)) => First_calls x t (chN k n x.n) D A c w hC i0 HD p0 hp0 hd hb)
  have HP := Lib.hid hp0
  have HV := Lib.hid hv
  have hl0 : i0 < (chN k n x.n).length := (List.getElem?_eq_some_iff.1 hp0).1
  have hl1 : i0 < (chR k x.n).length := (List.getElem?_eq_some_iff.1 hv).1
  have e16 : (k == 16) = false := by have : k ≠ 16 := by omega
                                     simpa using this
  have e19 : (k == 19) = false := by have : k ≠ 19 := by omega
                                     simpa using this
  clear HD hp0 hd hb hv
  generalize chN k n x.n = ns at HC HF HP hl0
  generalize chR k x.n = is at HC HV hl1
  generalize (D p0).1 = y at HF ⊢
  obtain ⟨xk, xn, xo, xh, x0, x1, x2, x3, x4, x5, x6, x7, xf, xi⟩ := x
  obtain ⟨yk, yn, yo, yh, y0, y1, y2, y3, y4, y5, y6, y7, yf, yi⟩ := y
  obtain ⟨pk, pv⟩ := p0
  simp only [thv_eq] at HC HF ⊢
  unfold opV at HC ⊢
  go_enter Try.func28, Try.ntmps28
  go_wp2_with fail
  refine (HC.out _).mono ?_
  rintro e w1 ⟨A, c, A2, c2, rfl, hN, hI, hb1⟩
  simp only [alloc_size] at hN hI
  have HN := Lib.hid hN
  have HI := Lib.hid hI
  have BX := (((Bx.new w [.int .i64 xk, .int .i64 xn, .int .i64 xo, .int .i64 xh, .int .i64 x0, .int .i64 x1, .int .i64 x2, .int .i64 x3, .int .i64 x4, .int .i64 x5, .int .i64 x6, .int .i64 x7, .slice none 0 0, .int .i64 xf, .int .i64 xi] 52).alloc (.cells #[.int .i64 k, .int .i64 ob, .int .i64 n, .int .i64 wt, .bool br] 33)).alloc (.cells #[.int .i64 0, .int .i64 0, .int .i64 0, .int .i64 0, .int .i64 0, .int .i64 0, .int .i64 0, .int .i64 0, .int .i64 0, .int .i64 0, .int .i64 0, .int .i64 0, .slice none 0 0, .int .i64 0, .int .i64 0] 52)).below hb1
  have BR := (Bx.new ((w.alloc (.cells #[.int .i64 xk, .int .i64 xn, .int .i64 xo, .int .i64 xh, .int .i64 x0, .int .i64 x1, .int .i64 x2, .int .i64 x3, .int .i64 x4, .int .i64 x5, .int .i64 x6, .int .i64 x7, .slice none 0 0, .int .i64 xf, .int .i64 xi] 52)).alloc (.cells #[.int .i64 k, .int .i64 ob, .int .i64 n, .int .i64 wt, .bool br] 33)) [.int .i64 0, .int .i64 0, .int .i64 0, .int .i64 0, .int .i64 0, .int .i64 0, .int .i64 0, .int .i64 0, .int .i64 0, .int .i64 0, .int .i64 0, .int .i64 0, .slice none 0 0, .int .i64 0, .int .i64 0] 52).below hb1
  simp only [alloc_size] at BR
  have HBR := Lib.hid BR
  have HB1 := Lib.hid (below_step (below_alloc (below_alloc (below_alloc (Below.refl w.heap.size w) _) _) _) hb1)
  have x0' := BX.cell 0 _ rfl
  have x1' := BX.cell 1 _ rfl
  have x2' := BX.cell 2 _ rfl
  have x3' := BX.cell 3 _ rfl
  have x4' := BX.cell 4 _ rfl
  have x5' := BX.cell 5 _ rfl
  have x6' := BX.cell 6 _ rfl
  have x7' := BX.cell 7 _ rfl
  have x8' := BX.cell 8 _ rfl
  have x9' := BX.cell 9 _ rfl
  have x10' := BX.cell 10 _ rfl
  have x11' := BX.cell 11 _ rfl
  have x12' := BX.cell 12 _ rfl
  have x13' := BX.cell 13 _ rfl
  have x14' := BX.cell 14 _ rfl
  clear hN hI hb1 BX BR HC
  go_wp2_with fail
  refine (HF.out _ A c _ HN.out).mono ?_
  rintro e w2 ⟨rfl, hb2⟩
  have HN2 := Lib.hid (HN.out.below hb2)
  have HI2 := Lib.hid (HI.out.below hb2)
  have HBR2 := Lib.hid (HBR.out.below hb2)
  have HB2 := Lib.hid (below_step HB1.out hb2)
  clear hb2 HN HI HBR HB1 x0' x1' x2' x3' x4' x5' x6' x7' x8' x9' x10' x11' x12' x13' x14' HF
  go_upto_region 10 with fail
  have hle : (0 : Int) ≤ (i0 : Int) := by omega
  have O3 := below_alloc (Below.refl w2.heap.size w2) (.cells #[.int .i64 yk, .int .i64 yn, .int .i64 yo, .int .i64 yh, .int .i64 y0, .int .i64 y1, .int .i64 y2, .int .i64 y3, .int .i64 y4, .int .i64 y5, .int .i64 y6, .int .i64 y7, .slice none 0 0, .int .i64 yf, .int .i64 yi] 52)
  have HY := Bx.new w2 [.int .i64 yk, .int .i64 yn, .int .i64 yo, .int .i64 yh, .int .i64 y0, .int .i64 y1, .int .i64 y2, .int .i64 y3, .int .i64 y4, .int .i64 y5, .int .i64 y6, .int .i64 y7, .slice none 0 0, .int .i64 yf, .int .i64 yi] 52
  have HN3 := HN2.out.below O3
  have HI3 := HI2.out.below O3
  have HR3 := HBR2.out.below O3
  have HB3 := Lib.hid (below_step HB2.out O3)
  change Bx _ _ _ (w2.alloc (.cells #[.int .i64 yk, .int .i64 yn, .int .i64 yo, .int .i64 yh, .int .i64 y0, .int .i64 y1, .int .i64 y2, .int .i64 y3, .int .i64 y4, .int .i64 y5, .int .i64 y6, .int .i64 y7, .slice none 0 0, .int .i64 yf, .int .i64 yi] 52)) at HY
  have hsz := alloc_size w2 (.cells #[.int .i64 yk, .int .i64 yn, .int .i64 yo, .int .i64 yh, .int .i64 y0, .int .i64 y1, .int .i64 y2, .int .i64 y3, .int .i64 y4, .int .i64 y5, .int .i64 y6, .int .i64 y7, .slice none 0 0, .int .i64 yf, .int .i64 yi] 52)
  have hbs := HB2.out.size
  have hrl := HBR2.out.ty.lt
  generalize w2.alloc (.cells #[.int .i64 yk, .int .i64 yn, .int .i64 yo, .int .i64 yh, .int .i64 y0, .int .i64 y1, .int .i64 y2, .int .i64 y3, .int .i64 y4, .int .i64 y5, .int .i64 y6, .int .i64 y7, .slice none 0 0, .int .i64 yf, .int .i64 yi] 52) = w3 at HY HN3 HI3 HR3 HB3 hsz ⊢
  generalize w2.heap.size = bY at HY hsz hrl hbs ⊢
  obtain ⟨ad', _, hA1, hok1, _, _⟩ := HN3.get i0 hl0
  obtain ⟨ad2', _, hA2, hok2, _, _⟩ := HI3.get i0 hl1
  obtain ⟨ad, p, rfl, hp, q0, q1⟩ := at_nt HN3 i0 hl0
  obtain rfl := Option.some.inj hA1
  obtain rfl : (pk, pv) = p := Option.some.inj (HP.out.symm.trans hp)
  obtain ⟨ad2, rfl, q2⟩ := at_int HI3 i0 hl1
  obtain rfl := Option.some.inj hA2
  have hn1 : ad.block ≠ w.heap.size + 1 + 1 := by have := hok1; omega
  have hn2 : ad2.block ≠ w.heap.size + 1 + 1 := by have := hok2; omega
  have hn3 : (ad.add (i0 * 2)).block ≠ w.heap.size + 1 + 1 := by rw [add_block]; exact hn1
  have hn4 : (ad2.add i0).block ≠ w.heap.size + 1 + 1 := by rw [add_block]; exact hn2
  clear hok1 hok2
  have hval : is[i0] = val := Option.some.inj ((List.getElem?_eq_getElem hl1).symm.trans HV.out)
  rw [hval] at q2
  dsimp only at q0 q1
  have HYB := Lib.hid HY
  have HRB := Lib.hid HR3
  have Q0 := Lib.hid q0
  have Q1 := Lib.hid q1
  have Q2 := Lib.hid q2
  have hne : w.heap.size + 1 + 1 ≠ bY := by omega
  have hne' := hne.symm
  have hlt1 : (i0 : Int) < (ns.length : Int) := by omega
  have hlt2 : (i0 : Int) < (is.length : Int) := by omega
  have hww : w.heap.size ≤ w3.heap.size := by omega
  have hbr := Lib.hid (show w.heap.size + 1 + 1 < w3.heap.size by omega)
  clear hp hval HN2 HI2 HBR2 HB2 HY HN3 HI3 HR3 hsz q0 q1 q2
  refine Muf.region (.q 0 (.q 1 (.q 2 (.q 3 (.q 4 (.q 6 (.q 7 (.q 8 (.q 9 (.fork 5 (.m 10 (.m 11 (.m 12 .nil))) 10 (.m 5 (.m 11 (.m 12 .nil)))))))))))) ) [0, 1, 2, 3, 4, 5, 6, 7, 8, 9, 10, 11] (fun w' => Only (· = w.heap.size + 1 + 1) w3 w') (by kernel_rfl) (by kernel_rfl) (by exact (Only.refl _ _).drew) ?_
  apply Muf.quiet; (· (simp only [List.getElem?_toArray, List.getElem?_cons_succ, List.getElem?_cons_zero]) <;> rfl); (· intro w' hR V hV; have yb := HYB.out.only hR hne'; have z0 := yb.cell 0 _ rfl; have z1 := yb.cell 1 _ rfl; have z2 := yb.cell 2 _ rfl; have z3 := yb.cell 3 _ rfl; have z4 := yb.cell 4 _ rfl; have z5 := yb.cell 5 _ rfl; have z6 := yb.cell 6 _ rfl; have z7 := yb.cell 7 _ rfl; have z8 := yb.cell 8 _ rfl; have z9 := yb.cell 9 _ rfl; have z10 := yb.cell 10 _ rfl; have z11 := yb.cell 11 _ rfl; have z12 := yb.cell 12 _ rfl; have z13 := yb.cell 13 _ rfl; have z14 := yb.cell 14 _ rfl; clear yb; go_simp; exact hV); intro K hK; simp only [Act.put, List.setIfInBounds_toArray, List.set_cons_zero, List.set_cons_succ]; refine hK _ ?_; clear hK K
  apply Muf.quiet; (· (simp only [List.getElem?_toArray, List.getElem?_cons_succ, List.getElem?_cons_zero]) <;> rfl); (· intro w' hR V hV; go_simp; exact hV); intro K hK; simp only [Act.put, List.setIfInBounds_toArray, List.set_cons_zero, List.set_cons_succ]; refine hK _ ?_; clear hK K
  apply Muf.quiet; (· (simp only [List.getElem?_toArray, List.getElem?_cons_succ, List.getElem?_cons_zero]) <;> rfl); (· intro w' hR V hV; go_simp; exact hV); intro K hK; simp only [Act.put, List.setIfInBounds_toArray, List.set_cons_zero, List.set_cons_succ]; refine hK _ ?_; clear hK K
  apply Muf.quiet; (· (simp only [List.getElem?_toArray, List.getElem?_cons_succ, List.getElem?_cons_zero]) <;> rfl); (· intro w' hR V hV; first | (go_simp; exact hV) | (go_simp; rw [if_pos ⟨hle, hlt1⟩]; exact hV)); intro K hK; simp only [Act.put, List.setIfInBounds_toArray, List.set_cons_zero, List.set_cons_succ]; refine hK _ ?_; clear hK K
  apply Muf.quiet; (· (simp only [List.getElem?_toArray, List.getElem?_cons_succ, List.getElem?_cons_zero]) <;> rfl); (· intro w' hR V hV; have s0 := hR.cell Q0.out hn3; have s1 := hR.cell Q1.out hn3; go_simp; exact hV); intro K hK; simp only [Act.put, List.setIfInBounds_toArray, List.set_cons_zero, List.set_cons_succ]; refine hK _ ?_; clear hK K
  apply Muf.quiet; (· (simp only [List.getElem?_toArray, List.getElem?_cons_succ, List.getElem?_cons_zero]) <;> rfl); (· intro w' hR V hV; go_simp; exact hV); intro K hK; simp only [Act.put, List.setIfInBounds_toArray, List.set_cons_zero, List.set_cons_succ]; refine hK _ ?_; clear hK K
  apply Muf.quiet; (· (simp only [List.getElem?_toArray, List.getElem?_cons_succ, List.getElem?_cons_zero]) <;> rfl); (· intro w' hR V hV; go_simp; exact hV); intro K hK; simp only [Act.put, List.setIfInBounds_toArray, List.set_cons_zero, List.set_cons_succ]; refine hK _ ?_; clear hK K
  apply Muf.quiet; (· (simp only [List.getElem?_toArray, List.getElem?_cons_succ, List.getElem?_cons_zero]) <;> rfl); (· intro w' hR V hV; first | (go_simp; exact hV) | (go_simp; rw [if_pos ⟨hle, hlt2⟩]; exact hV)); intro K hK; simp only [Act.put, List.setIfInBounds_toArray, List.set_cons_zero, List.set_cons_succ]; refine hK _ ?_; clear hK K
  apply Muf.quiet; (· (simp only [List.getElem?_toArray, List.getElem?_cons_succ, List.getElem?_cons_zero]) <;> rfl); (· intro w' hR V hV; have s2 := hR.cell Q2.out hn4; go_simp; exact hV); intro K hK; simp only [Act.put, List.setIfInBounds_toArray, List.set_cons_zero, List.set_cons_succ]; refine hK _ ?_; clear hK K
  refine Muf.fork ?_ ?_
  · refine Muf.chk rfl (by decide) ?_
    go_wp2_with fail
    refine ⟨by first | exact ((Only.refl _ _).drew.alloc _) | exact ((Only.refl _ _).alloc _).drew, ?_⟩
    have rb := HRB.out.alloc (.cells #[.int .i64 pk, .int .i64 pv] 40)
    have r0' := rb.cell 0 _ rfl
    have r1' := rb.cell 1 _ rfl
    have r2' := rb.cell 2 _ rfl
    have r3' := rb.cell 3 _ rfl
    have r4' := rb.cell 4 _ rfl
    have r5' := rb.cell 5 _ rfl
    have r6' := rb.cell 6 _ rfl
    have r7' := rb.cell 7 _ rfl
    have r8' := rb.cell 8 _ rfl
    have r9' := rb.cell 9 _ rfl
    have r10' := rb.cell 10 _ rfl
    have r11' := rb.cell 11 _ rfl
    have r12' := rb.cell 12 _ rfl
    have r13' := rb.cell 13 _ rfl
    have r14' := rb.cell 14 _ rfl
    have fz := fun i => rb.ty.frozen i
    clear rb
    refine Muf.mover (Muf.chk rfl (by decide) ?_)
    go_wp2_with fail
    have RR := Lib.hid (show Only (· = w.heap.size + 1 + 1) w3 ((((((((((((((((w3.alloc (.cells #[.int .i64 pk, .int .i64 pv] 40)).setCell ⟨w.heap.size + 1 + 1, 0, none⟩ (.int .i64 yk)).setCell ⟨w.heap.size + 1 + 1, 1, none⟩ (.int .i64 yn)).setCell ⟨w.heap.size + 1 + 1, 2, none⟩ (.int .i64 yo)).setCell ⟨w.heap.size + 1 + 1, 3, none⟩ (.int .i64 yh)).setCell ⟨w.heap.size + 1 + 1, 4, none⟩ (.int .i64 y0)).setCell ⟨w.heap.size + 1 + 1, 5, none⟩ (.int .i64 y1)).setCell ⟨w.heap.size + 1 + 1, 6, none⟩ (.int .i64 y2)).setCell ⟨w.heap.size + 1 + 1, 7, none⟩ (.int .i64 y3)).setCell ⟨w.heap.size + 1 + 1, 8, none⟩ (.int .i64 y4)).setCell ⟨w.heap.size + 1 + 1, 9, none⟩ (.int .i64 y5)).setCell ⟨w.heap.size + 1 + 1, 10, none⟩ (.int .i64 y6)).setCell ⟨w.heap.size + 1 + 1, 11, none⟩ (.int .i64 y7)).setCell ⟨w.heap.size + 1 + 1, 12, none⟩ (.slice none 0 0)).setCell ⟨w.heap.size + 1 + 1, 13, none⟩ (.int .i64 yf)).setCell ⟨w.heap.size + 1 + 1, 14, none⟩ (.int .i64 yi)).drew from by
        (try with_reducible refine Only.drew ?_)
        (try with_reducible refine Only.alloc ?_ _)
        repeat (with_reducible refine Only.set ?_ (Or.inl ?_) _)
        all_goals first | rfl | exact (Only.refl _ _).alloc _)
    refine ⟨RR.out, ?_⟩
    refine Muf.mover (Muf.chk rfl (by decide) ?_)
    go_wp2_with fail
    refine ⟨RR.out, ?_⟩
    refine Muf.mover (Muf.bare rfl (by decide) ?_)
    go_wp2_with fail
    refine Muf.done ?_
    go_wp2_with fail
    refine bodyPost_ret (v := .tuple #[(⟨yk, yn, yo, yh, y0, y1, y2, y3, y4, y5, y6, y7, yf, yi⟩ : Th).v, .slice (some ⟨w3.heap.size, 0, none⟩) 1 1, .int .i64 val]) ?_ rfl ?_
    · simp [results, Try.results28, go_sem, Th.v, r0', r1', r2', r3', r4', r5', r6', r7', r8', r9', r10', r11', r12', r13', r14']
    · refine ⟨_, _, rfl, ?_, HB3.out.trans (RR.out.below hww (fun i hi => by have hi : i = w.heap.size + 1 + 1 := hi; omega))⟩
      have hc := nt_lit (w := w3) (cs := #[.int .i64 pk, .int .i64 pv]) [(pk, pv)] rfl (by simp)
      have RA := Lib.hid (show Only (· = w.heap.size + 1 + 1) (w3.alloc (.cells #[.int .i64 pk, .int .i64 pv] 40)) ((((((((((((((((w3.alloc (.cells #[.int .i64 pk, .int .i64 pv] 40)).setCell ⟨w.heap.size + 1 + 1, 0, none⟩ (.int .i64 yk)).setCell ⟨w.heap.size + 1 + 1, 1, none⟩ (.int .i64 yn)).setCell ⟨w.heap.size + 1 + 1, 2, none⟩ (.int .i64 yo)).setCell ⟨w.heap.size + 1 + 1, 3, none⟩ (.int .i64 yh)).setCell ⟨w.heap.size + 1 + 1, 4, none⟩ (.int .i64 y0)).setCell ⟨w.heap.size + 1 + 1, 5, none⟩ (.int .i64 y1)).setCell ⟨w.heap.size + 1 + 1, 6, none⟩ (.int .i64 y2)).setCell ⟨w.heap.size + 1 + 1, 7, none⟩ (.int .i64 y3)).setCell ⟨w.heap.size + 1 + 1, 8, none⟩ (.int .i64 y4)).setCell ⟨w.heap.size + 1 + 1, 9, none⟩ (.int .i64 y5)).setCell ⟨w.heap.size + 1 + 1, 10, none⟩ (.int .i64 y6)).setCell ⟨w.heap.size + 1 + 1, 11, none⟩ (.int .i64 y7)).setCell ⟨w.heap.size + 1 + 1, 12, none⟩ (.slice none 0 0)).setCell ⟨w.heap.size + 1 + 1, 13, none⟩ (.int .i64 yf)).setCell ⟨w.heap.size + 1 + 1, 14, none⟩ (.int .i64 yi)).drew from by
          (try with_reducible refine Only.drew ?_)
          (try with_reducible refine Only.alloc ?_ _)
          repeat (with_reducible refine Only.set ?_ (Or.inl ?_) _)
          all_goals first | rfl | exact Only.refl _ _)
      exact (hc.keep (w1 := ((((((((((((((((w3.alloc (.cells #[.int .i64 pk, .int .i64 pv] 40)).setCell ⟨w.heap.size + 1 + 1, 0, none⟩ (.int .i64 yk)).setCell ⟨w.heap.size + 1 + 1, 1, none⟩ (.int .i64 yn)).setCell ⟨w.heap.size + 1 + 1, 2, none⟩ (.int .i64 yo)).setCell ⟨w.heap.size + 1 + 1, 3, none⟩ (.int .i64 yh)).setCell ⟨w.heap.size + 1 + 1, 4, none⟩ (.int .i64 y0)).setCell ⟨w.heap.size + 1 + 1, 5, none⟩ (.int .i64 y1)).setCell ⟨w.heap.size + 1 + 1, 6, none⟩ (.int .i64 y2)).setCell ⟨w.heap.size + 1 + 1, 7, none⟩ (.int .i64 y3)).setCell ⟨w.heap.size + 1 + 1, 8, none⟩ (.int .i64 y4)).setCell ⟨w.heap.size + 1 + 1, 9, none⟩ (.int .i64 y5)).setCell ⟨w.heap.size + 1 + 1, 10, none⟩ (.int .i64 y6)).setCell ⟨w.heap.size + 1 + 1, 11, none⟩ (.int .i64 y7)).setCell ⟨w.heap.size + 1 + 1, 12, none⟩ (.slice none 0 0)).setCell ⟨w.heap.size + 1 + 1, 13, none⟩ (.int .i64 yf)).setCell ⟨w.heap.size + 1 + 1, 14, none⟩ (.int .i64 yi)).drew) (fun kk hk hl => RA.out.block kk hl (fun e => by have e : kk = w.heap.size + 1 + 1 := e; have hk : w3.heap.size ≤ kk := hk; have := hbr.out; omega))).mono (fun kk hk => by have hk : w3.heap.size ≤ kk := hk; show w.heap.size ≤ kk; omega)
  · have rb := HRB.out
    have r0' := rb.cell 0 _ rfl
    have r1' := rb.cell 1 _ rfl
    have r2' := rb.cell 2 _ rfl
    have r3' := rb.cell 3 _ rfl
    have r4' := rb.cell 4 _ rfl
    have r5' := rb.cell 5 _ rfl
    have r6' := rb.cell 6 _ rfl
    have r7' := rb.cell 7 _ rfl
    have r8' := rb.cell 8 _ rfl
    have r9' := rb.cell 9 _ rfl
    have r10' := rb.cell 10 _ rfl
    have r11' := rb.cell 11 _ rfl
    have r12' := rb.cell 12 _ rfl
    have r13' := rb.cell 13 _ rfl
    have r14' := rb.cell 14 _ rfl
    have fz := fun i => rb.ty.frozen i
    clear rb
    refine Muf.chk rfl (by decide) ?_
    go_wp2_with fail
    have R0 := Lib.hid (show Only (· = w.heap.size + 1 + 1) w3 (((((((((((((((w3.setCell ⟨w.heap.size + 1 + 1, 0, none⟩ (.int .i64 yk)).setCell ⟨w.heap.size + 1 + 1, 1, none⟩ (.int .i64 yn)).setCell ⟨w.heap.size + 1 + 1, 2, none⟩ (.int .i64 yo)).setCell ⟨w.heap.size + 1 + 1, 3, none⟩ (.int .i64 yh)).setCell ⟨w.heap.size + 1 + 1, 4, none⟩ (.int .i64 y0)).setCell ⟨w.heap.size + 1 + 1, 5, none⟩ (.int .i64 y1)).setCell ⟨w.heap.size + 1 + 1, 6, none⟩ (.int .i64 y2)).setCell ⟨w.heap.size + 1 + 1, 7, none⟩ (.int .i64 y3)).setCell ⟨w.heap.size + 1 + 1, 8, none⟩ (.int .i64 y4)).setCell ⟨w.heap.size + 1 + 1, 9, none⟩ (.int .i64 y5)).setCell ⟨w.heap.size + 1 + 1, 10, none⟩ (.int .i64 y6)).setCell ⟨w.heap.size + 1 + 1, 11, none⟩ (.int .i64 y7)).setCell ⟨w.heap.size + 1 + 1, 12, none⟩ (.slice none 0 0)).setCell ⟨w.heap.size + 1 + 1, 13, none⟩ (.int .i64 yf)).setCell ⟨w.heap.size + 1 + 1, 14, none⟩ (.int .i64 yi)).drew from by
        (try with_reducible refine Only.drew ?_)
        (try with_reducible refine Only.alloc ?_ _)
        repeat (with_reducible refine Only.set ?_ (Or.inl ?_) _)
        all_goals first | rfl | exact Only.refl _ _)
    refine ⟨R0.out, ?_⟩
    refine Muf.mover (Muf.chk rfl (by decide) ?_)
    go_wp2_with fail
    have RR := Lib.hid (show Only (· = w.heap.size + 1 + 1) w3 ((((((((((((((((w3.setCell ⟨w.heap.size + 1 + 1, 0, none⟩ (.int .i64 yk)).setCell ⟨w.heap.size + 1 + 1, 1, none⟩ (.int .i64 yn)).setCell ⟨w.heap.size + 1 + 1, 2, none⟩ (.int .i64 yo)).setCell ⟨w.heap.size + 1 + 1, 3, none⟩ (.int .i64 yh)).setCell ⟨w.heap.size + 1 + 1, 4, none⟩ (.int .i64 y0)).setCell ⟨w.heap.size + 1 + 1, 5, none⟩ (.int .i64 y1)).setCell ⟨w.heap.size + 1 + 1, 6, none⟩ (.int .i64 y2)).setCell ⟨w.heap.size + 1 + 1, 7, none⟩ (.int .i64 y3)).setCell ⟨w.heap.size + 1 + 1, 8, none⟩ (.int .i64 y4)).setCell ⟨w.heap.size + 1 + 1, 9, none⟩ (.int .i64 y5)).setCell ⟨w.heap.size + 1 + 1, 10, none⟩ (.int .i64 y6)).setCell ⟨w.heap.size + 1 + 1, 11, none⟩ (.int .i64 y7)).setCell ⟨w.heap.size + 1 + 1, 12, none⟩ (.slice none 0 0)).setCell ⟨w.heap.size + 1 + 1, 13, none⟩ (.int .i64 yf)).setCell ⟨w.heap.size + 1 + 1, 14, none⟩ (.int .i64 yi)).alloc (.cells #[.int .i64 pk, .int .i64 pv] 40)).drew from by
        (try with_reducible refine Only.drew ?_)
        (try with_reducible refine Only.alloc ?_ _)
        repeat (with_reducible refine Only.set ?_ (Or.inl ?_) _)
        all_goals first | rfl | exact Only.refl _ _)
    refine ⟨RR.out, ?_⟩
    refine Muf.mover (Muf.chk rfl (by decide) ?_)
    go_wp2_with fail
    refine ⟨RR.out, ?_⟩
    refine Muf.mover (Muf.bare rfl (by decide) ?_)
    go_wp2_with fail
    refine Muf.done ?_
    go_wp2_with fail
    refine bodyPost_ret (v := .tuple #[(⟨yk, yn, yo, yh, y0, y1, y2, y3, y4, y5, y6, y7, yf, yi⟩ : Th).v, .slice (some ⟨w3.heap.size, 0, none⟩) 1 1, .int .i64 val]) ?_ rfl ?_
    · have xb : Bx (w.heap.size + 1 + 1) 52 [.int .i64 yk, .int .i64 yn, .int .i64 yo, .int .i64 yh, .int .i64 y0, .int .i64 y1, .int .i64 y2, .int .i64 y3, .int .i64 y4, .int .i64 y5, .int .i64 y6, .int .i64 y7, .slice none 0 0, .int .i64 yf, .int .i64 yi] (((((((((((((((w3.setCell ⟨w.heap.size + 1 + 1, 0, none⟩ (.int .i64 yk)).setCell ⟨w.heap.size + 1 + 1, 1, none⟩ (.int .i64 yn)).setCell ⟨w.heap.size + 1 + 1, 2, none⟩ (.int .i64 yo)).setCell ⟨w.heap.size + 1 + 1, 3, none⟩ (.int .i64 yh)).setCell ⟨w.heap.size + 1 + 1, 4, none⟩ (.int .i64 y0)).setCell ⟨w.heap.size + 1 + 1, 5, none⟩ (.int .i64 y1)).setCell ⟨w.heap.size + 1 + 1, 6, none⟩ (.int .i64 y2)).setCell ⟨w.heap.size + 1 + 1, 7, none⟩ (.int .i64 y3)).setCell ⟨w.heap.size + 1 + 1, 8, none⟩ (.int .i64 y4)).setCell ⟨w.heap.size + 1 + 1, 9, none⟩ (.int .i64 y5)).setCell ⟨w.heap.size + 1 + 1, 10, none⟩ (.int .i64 y6)).setCell ⟨w.heap.size + 1 + 1, 11, none⟩ (.int .i64 y7)).setCell ⟨w.heap.size + 1 + 1, 12, none⟩ (.slice none 0 0)).setCell ⟨w.heap.size + 1 + 1, 13, none⟩ (.int .i64 yf)).setCell ⟨w.heap.size + 1 + 1, 14, none⟩ (.int .i64 yi)) := (sets15 HRB.out (Below.refl _ _)).1
      have xc := xb.alloc (.cells #[.int .i64 pk, .int .i64 pv] 40)
      have xd := xc.drew1
      have x0' := xb.cell 0 _ rfl
      have x1' := xb.cell 1 _ rfl
      have x2' := xb.cell 2 _ rfl
      have x3' := xb.cell 3 _ rfl
      have x4' := xb.cell 4 _ rfl
      have x5' := xb.cell 5 _ rfl
      have x6' := xb.cell 6 _ rfl
      have x7' := xb.cell 7 _ rfl
      have x8' := xb.cell 8 _ rfl
      have x9' := xb.cell 9 _ rfl
      have x10' := xb.cell 10 _ rfl
      have x11' := xb.cell 11 _ rfl
      have x12' := xb.cell 12 _ rfl
      have x13' := xb.cell 13 _ rfl
      have x14' := xb.cell 14 _ rfl
      have y0' := xc.cell 0 _ rfl
      have y1' := xc.cell 1 _ rfl
      have y2' := xc.cell 2 _ rfl
      have y3' := xc.cell 3 _ rfl
      have y4' := xc.cell 4 _ rfl
      have y5' := xc.cell 5 _ rfl
      have y6' := xc.cell 6 _ rfl
      have y7' := xc.cell 7 _ rfl
      have y8' := xc.cell 8 _ rfl
      have y9' := xc.cell 9 _ rfl
      have y10' := xc.cell 10 _ rfl
      have y11' := xc.cell 11 _ rfl
      have y12' := xc.cell 12 _ rfl
      have y13' := xc.cell 13 _ rfl
      have y14' := xc.cell 14 _ rfl
      have z0' := xd.cell 0 _ rfl
      have z1' := xd.cell 1 _ rfl
      have z2' := xd.cell 2 _ rfl
      have z3' := xd.cell 3 _ rfl
      have z4' := xd.cell 4 _ rfl
      have z5' := xd.cell 5 _ rfl
      have z6' := xd.cell 6 _ rfl
      have z7' := xd.cell 7 _ rfl
      have z8' := xd.cell 8 _ rfl
      have z9' := xd.cell 9 _ rfl
      have z10' := xd.cell 10 _ rfl
      have z11' := xd.cell 11 _ rfl
      have z12' := xd.cell 12 _ rfl
      have z13' := xd.cell 13 _ rfl
      have z14' := xd.cell 14 _ rfl
      simp [results, Try.results28, go_sem, Th.v, x0', y0', z0', x1', y1', z1', x2', y2', z2', x3', y3', z3', x4', y4', z4', x5', y5', z5', x6', y6', z6', x7', y7', z7', x8', y8', z8', x9', y9', z9', x10', y10', z10', x11', y11', z11', x12', y12', z12', x13', y13', z13', x14', y14', z14']
    · refine ⟨_, _, rfl, ?_, HB3.out.trans (RR.out.below hww (fun i hi => by have hi : i = w.heap.size + 1 + 1 := hi; omega))⟩
      have hc := nt_lit (w := (((((((((((((((w3.setCell ⟨w.heap.size + 1 + 1, 0, none⟩ (.int .i64 yk)).setCell ⟨w.heap.size + 1 + 1, 1, none⟩ (.int .i64 yn)).setCell ⟨w.heap.size + 1 + 1, 2, none⟩ (.int .i64 yo)).setCell ⟨w.heap.size + 1 + 1, 3, none⟩ (.int .i64 yh)).setCell ⟨w.heap.size + 1 + 1, 4, none⟩ (.int .i64 y0)).setCell ⟨w.heap.size + 1 + 1, 5, none⟩ (.int .i64 y1)).setCell ⟨w.heap.size + 1 + 1, 6, none⟩ (.int .i64 y2)).setCell ⟨w.heap.size + 1 + 1, 7, none⟩ (.int .i64 y3)).setCell ⟨w.heap.size + 1 + 1, 8, none⟩ (.int .i64 y4)).setCell ⟨w.heap.size + 1 + 1, 9, none⟩ (.int .i64 y5)).setCell ⟨w.heap.size + 1 + 1, 10, none⟩ (.int .i64 y6)).setCell ⟨w.heap.size + 1 + 1, 11, none⟩ (.int .i64 y7)).setCell ⟨w.heap.size + 1 + 1, 12, none⟩ (.slice none 0 0)).setCell ⟨w.heap.size + 1 + 1, 13, none⟩ (.int .i64 yf)).setCell ⟨w.heap.size + 1 + 1, 14, none⟩ (.int .i64 yi))) (cs := #[.int .i64 pk, .int .i64 pv]) [(pk, pv)] rfl (by simp)
      rw [show (((((((((((((((w3.setCell ⟨w.heap.size + 1 + 1, 0, none⟩ (.int .i64 yk)).setCell ⟨w.heap.size + 1 + 1, 1, none⟩ (.int .i64 yn)).setCell ⟨w.heap.size + 1 + 1, 2, none⟩ (.int .i64 yo)).setCell ⟨w.heap.size + 1 + 1, 3, none⟩ (.int .i64 yh)).setCell ⟨w.heap.size + 1 + 1, 4, none⟩ (.int .i64 y0)).setCell ⟨w.heap.size + 1 + 1, 5, none⟩ (.int .i64 y1)).setCell ⟨w.heap.size + 1 + 1, 6, none⟩ (.int .i64 y2)).setCell ⟨w.heap.size + 1 + 1, 7, none⟩ (.int .i64 y3)).setCell ⟨w.heap.size + 1 + 1, 8, none⟩ (.int .i64 y4)).setCell ⟨w.heap.size + 1 + 1, 9, none⟩ (.int .i64 y5)).setCell ⟨w.heap.size + 1 + 1, 10, none⟩ (.int .i64 y6)).setCell ⟨w.heap.size + 1 + 1, 11, none⟩ (.int .i64 y7)).setCell ⟨w.heap.size + 1 + 1, 12, none⟩ (.slice none 0 0)).setCell ⟨w.heap.size + 1 + 1, 13, none⟩ (.int .i64 yf)).setCell ⟨w.heap.size + 1 + 1, 14, none⟩ (.int .i64 yi)).heap.size = w3.heap.size by simp [World.setCell]] at hc
      exact (hc.below (w1 := ((((((((((((((((w3.setCell ⟨w.heap.size + 1 + 1, 0, none⟩ (.int .i64 yk)).setCell ⟨w.heap.size + 1 + 1, 1, none⟩ (.int .i64 yn)).setCell ⟨w.heap.size + 1 + 1, 2, none⟩ (.int .i64 yo)).setCell ⟨w.heap.size + 1 + 1, 3, none⟩ (.int .i64 yh)).setCell ⟨w.heap.size + 1 + 1, 4, none⟩ (.int .i64 y0)).setCell ⟨w.heap.size + 1 + 1, 5, none⟩ (.int .i64 y1)).setCell ⟨w.heap.size + 1 + 1, 6, none⟩ (.int .i64 y2)).setCell ⟨w.heap.size + 1 + 1, 7, none⟩ (.int .i64 y3)).setCell ⟨w.heap.size + 1 + 1, 8, none⟩ (.int .i64 y4)).setCell ⟨w.heap.size + 1 + 1, 9, none⟩ (.int .i64 y5)).setCell ⟨w.heap.size + 1 + 1, 10, none⟩ (.int .i64 y6)).setCell ⟨w.heap.size + 1 + 1, 11, none⟩ (.int .i64 y7)).setCell ⟨w.heap.size + 1 + 1, 12, none⟩ (.slice none 0 0)).setCell ⟨w.heap.size + 1 + 1, 13, none⟩ (.int .i64 yf)).setCell ⟨w.heap.size + 1 + 1, 14, none⟩ (.int .i64 yi)).alloc (.cells #[.int .i64 pk, .int .i64 pv] 40)).drew) (below_drew1 (Below.refl _ _))).mono (fun kk hk => by have hk : w3.heap.size ≤ kk := hk; show w.heap.size ≤ kk; omega)
end Go.Proofs.Ytegjkheecbmioaa
