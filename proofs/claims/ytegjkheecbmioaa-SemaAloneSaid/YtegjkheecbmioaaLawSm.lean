/- The laws of semas done alone, walked. -/
import Derived.Test.YtegjkheecbmioaaSmR
import Derived.Test.YtegjkheecbmioaaOpA
import Derived.Test.YtegjkheecbmioaaMuf
namespace Go.Proofs.Ytegjkheecbmioaa
open Go.RowKit
set_option linter.unusedVariables false
set_option linter.unusedSimpArgs false

theorem pc_lit {w : World} {cs : Array Value} (xs : List PC) (h : cs.toList = xs.flatMap PC.enc) (hl : xs.length ≤ 1000) : kPC.C (w.heap.size ≤ ·) (w.alloc (.cells cs 35)) (some ⟨w.heap.size, 0, none⟩) xs := by
  have hs : cs.size = xs.length * 6 := by
    rw [← Array.length_toList, h]
    exact flat_len (enc := PC.enc) (sz := 6) (fun _ => rfl) xs
  have h1 := World.ownsRow_lit (base := w.heap.size) (size := 6) (e := 35) w cs xs.length (Nat.le_refl _) (by unfold maxLen; omega) hs
  rw [h] at h1
  obtain ⟨A, c, e, _, hc⟩ := C_of_own (enc := PC.enc) (hl := fun _ => rfl) (h1 := by intro x u hu; simp [PC.enc] at hu; rcases hu with rfl | rfl | rfl | rfl | rfl | rfl <;> rfl) (h0 := by decide) (ok := (w.heap.size ≤ ·)) h1 (fun k hk => own_base h1 k hk)
  simp only [Value.slice.injEq] at e
  rw [e.1]
  exact hc
theorem smPlays {oks okt : Nat → Prop} (A0 : Option Addr) (c0 : Nat) (w : World) (hC0 : kStr.C okt w A0 textsSm) (f : Bool) (on : Int) (h0 : 0 ≤ on) (h1 : on ≤ 1000) (script : List PC) (As : Option Addr) (cs : Nat) (hS : kPC.C oks w As script) (hr : ∀ c ∈ script, -9223372036854775808 ≤ c.t ∧ c.t ≤ 9223372036854775807) :
    Calls Try.prog 10 #[.slice A0 textsSm.length c0, .agg #[.int .i64 2, .bool f, .int .i64 on], .slice As script.length cs] w fun e w' => e = .returned (.bool true) ∧ Below w.heap.size w w' := by
  obtain ⟨c, l, hA, hmay, hcl, hall⟩ := sm_code
  exact Plays_calls textsSm A0 c0 w hC0 (by simp [textsSm]) sm_sizes.1 sm_sizes.2.1 sm_sizes.2.2 c l hA hcl 2 on f script As cs hS hr (cellInv 2 f) ⟨on, h0, h1, rfl, rfl, rfl, rfl⟩ (fun j x s h => h) (sm_step hmay hall f) (by decide)
set_option maxRecDepth 100000 in
set_option maxHeartbeats 1600000 in
theorem upSm_calls (w : World) : Calls Try.prog 8 #[] w fun e w' => e = .returned (.bool true) ∧ Below w.heap.size w w' := by
  go_enter Try.func8, Try.ntmps8
  go_wp2_with fail
  refine (TextsSm_calls _).mono ?_
  rintro e w1 ⟨A, c, rfl, hC, hb⟩
  have HC := Lib.hid hC
  have HB := Lib.hid hb
  clear hC hb
  go_wp2_with fail
  have hS := pc_lit (w := w1) (cs := #[.int .i64 0, .int .i64 4, .int .i64 0, .int .i64 2, .int .i64 0, .bool false, .int .i64 1, .int .i64 5, .int .i64 0, .int .i64 1, .int .i64 0, .bool false, .int .i64 0, .int .i64 6, .int .i64 0, .int .i64 2, .int .i64 0, .bool false, .int .i64 0, .int .i64 7, .int .i64 0, .int .i64 0, .int .i64 0, .bool false]) [⟨0, 4, 0, 2, 0, false⟩, ⟨1, 5, 0, 1, 0, false⟩, ⟨0, 6, 0, 2, 0, false⟩, ⟨0, 7, 0, 0, 0, false⟩] rfl (by decide)
  refine (smPlays A c _ (HC.out.below (below_alloc (Below.refl _ _) _)) false 2 (by decide) (by decide) [⟨0, 4, 0, 2, 0, false⟩, ⟨1, 5, 0, 1, 0, false⟩, ⟨0, 6, 0, 2, 0, false⟩, ⟨0, 7, 0, 0, 0, false⟩] _ 4 hS (by decide)).mono ?_
  rintro e w2 ⟨rfl, hb2⟩
  have HB2 := Lib.hid (below_step (below_alloc HB.out _) hb2)
  clear hb2 hS HC
  go_wp2_with fail
  go_ret
  exact ⟨rfl, HB2.out⟩
theorem mayO_2 {k n : Int} {f : Bool} (h : mayO k n f 2 = true) : k = 2 ∧ 0 ≤ n ∧ n ≤ 1000 := by
  simp only [mayO, Bool.and_eq_true, Bool.or_eq_true, decide_eq_true_eq, Bool.not_eq_true'] at h
  exact ⟨h.1.1.1.1, h.1.1.1.2, h.1.1.2⟩
set_option maxRecDepth 100000 in
set_option maxHeartbeats 1600000 in
theorem semaAlone_row (v0 v1 : Value) (W : World) (h0 : IsObj v0) (h : IsCalls W v1) : Calls Try.prog 3 #[v0, v1] W fun e W' => e = .returned (.bool true) ∧ Below W.heap.size W W' := by
  obtain ⟨k, f, n, rfl⟩ := h0
  obtain ⟨l, A, c, rfl, hS, hr⟩ := h
  have HS := Lib.hid hS
  have HR := Lib.hid hr
  clear hS hr
  go_enter Try.func3, Try.ntmps3
  go_wp2_with fail
  refine (upSm_calls _).mono ?_
  rintro e w1 ⟨rfl, hb1⟩
  have B1 := Lib.hid (below_step (below_alloc (Below.refl W.heap.size W) (.cells #[.int .i64 k, .bool f, .int .i64 n] 23)) hb1)
  have HO1 := Lib.hid ((Bx.new W [.int .i64 k, .bool f, .int .i64 n] 23).below hb1)
  have x0 := HO1.out.cell 0 _ rfl
  have x1 := HO1.out.cell 1 _ rfl
  have x2 := HO1.out.cell 2 _ rfl
  clear hb1
  go_wp2_with fail
  refine (MayO_calls k n 2 f _).mono ?_
  rintro e w2 ⟨rfl, hb2⟩
  have B2 := Lib.hid (below_step B1.out hb2)
  have HO2 := Lib.hid (HO1.out.below hb2)
  have x0 := HO2.out.cell 0 _ rfl
  have x1 := HO2.out.cell 1 _ rfl
  have x2 := HO2.out.cell 2 _ rfl
  clear hb2 B1 HO1
  obtain ⟨b, hb⟩ : ∃ b, mayO k n f 2 = b := ⟨_, rfl⟩
  rw [hb]
  cases b with
  | false =>
    clear hb
    go_wp2_with fail
    clear x0 x1 x2
    refine Muf.region (.q 0 (.q 1 (.q 2 (.q 3 (.q 4 (.q 6 (.q 7 (.m 5 (.m 8 (.q 9 (.q 10 (.q 11 .nil)))))))))))) [0, 1, 2, 3, 4, 6, 7, 5, 8, 9, 10, 11] (fun w' => Below w2.heap.size w2 w') (by kernel_rfl) (by kernel_rfl) (by (repeat (with_reducible first | exact Below.refl _ _ | assumption | apply below_alloc | apply below_drewN | apply below_drew1 | (refine below_set ?_ (by simp only [alloc_size]; omega)) | (refine below_step ?_ (by assumption))))) ?_
    iterate 5 (apply Muf.quiet; (· (simp only [List.getElem?_toArray, List.getElem?_cons_succ, List.getElem?_cons_zero]) <;> rfl); (· intro w' hR V hV; go_simp; exact hV); intro K hK; simp only [Act.put, List.setIfInBounds_toArray, List.set_cons_zero, List.set_cons_succ]; refine hK _ ?_; clear hK K)
    apply Muf.quiet; (· (simp only [List.getElem?_toArray, List.getElem?_cons_succ, List.getElem?_cons_zero]) <;> rfl); (· intro w' hR V hV; have yb := HO2.out.below hR; have y0 := yb.cell 0 _ rfl; have y1 := yb.cell 1 _ rfl; have y2 := yb.cell 2 _ rfl; clear yb; go_simp; exact hV); intro K hK; simp only [Act.put, List.setIfInBounds_toArray, List.set_cons_zero, List.set_cons_succ]; refine hK _ ?_; clear hK K
    apply Muf.quiet; (· (simp only [List.getElem?_toArray, List.getElem?_cons_succ, List.getElem?_cons_zero]) <;> rfl); (· intro w' hR V hV; go_simp; exact hV); intro K hK; simp only [Act.put, List.setIfInBounds_toArray, List.set_cons_zero, List.set_cons_succ]; refine hK _ ?_; clear hK K
    refine Muf.mover (Muf.chk rfl (by decide) ?_)
    go_wp2_with fail
    refine ⟨by (repeat (with_reducible first | exact Below.refl _ _ | assumption | apply below_alloc | apply below_drewN | apply below_drew1 | (refine below_set ?_ (by simp only [alloc_size]; omega)) | (refine below_step ?_ (by assumption)))), ?_⟩
    refine Muf.mover (Muf.chk rfl (by decide) ?_)
    go_wp2_with fail
    refine ⟨by (repeat (with_reducible first | exact Below.refl _ _ | assumption | apply below_alloc | apply below_drewN | apply below_drew1 | (refine below_set ?_ (by simp only [alloc_size]; omega)) | (refine below_step ?_ (by assumption)))), ?_⟩
    iterate 3 (apply Muf.quiet; (· (simp only [List.getElem?_toArray, List.getElem?_cons_succ, List.getElem?_cons_zero]) <;> rfl); (· intro w' hR V hV; go_simp; exact hV); intro K hK; simp only [Act.put, List.setIfInBounds_toArray, List.set_cons_zero, List.set_cons_succ]; refine hK _ ?_; clear hK K)
    refine Muf.done ?_
    go_wp2_with fail
    go_ret
    exact ⟨rfl, below_step B2.out (by (repeat (with_reducible first | exact Below.refl _ _ | assumption | apply below_alloc | apply below_drewN | apply below_drew1 | (refine below_set ?_ (by simp only [alloc_size]; omega)) | (refine below_step ?_ (by assumption)))))⟩
  | true =>
    obtain ⟨rfl, hn0, hn1⟩ := mayO_2 hb
    clear hb
    go_wp2_with fail
    clear x0 x1 x2
    refine Muf.region (.q 0 (.q 1 (.q 2 (.q 3 (.q 4 (.q 6 (.q 7 (.m 5 (.m 8 (.q 9 (.q 10 (.q 11 .nil)))))))))))) [0, 1, 2, 3, 4, 6, 7, 5, 8, 9, 10, 11] (fun w' => Below w2.heap.size w2 w') (by kernel_rfl) (by kernel_rfl) (by (repeat (with_reducible first | exact Below.refl _ _ | assumption | apply below_alloc | apply below_drewN | apply below_drew1 | (refine below_set ?_ (by simp only [alloc_size]; omega)) | (refine below_step ?_ (by assumption))))) ?_
    iterate 5 (apply Muf.quiet; (· (simp only [List.getElem?_toArray, List.getElem?_cons_succ, List.getElem?_cons_zero]) <;> rfl); (· intro w' hR V hV; go_simp; exact hV); intro K hK; simp only [Act.put, List.setIfInBounds_toArray, List.set_cons_zero, List.set_cons_succ]; refine hK _ ?_; clear hK K)
    apply Muf.quiet; (· (simp only [List.getElem?_toArray, List.getElem?_cons_succ, List.getElem?_cons_zero]) <;> rfl); (· intro w' hR V hV; have yb := HO2.out.below hR; have y0 := yb.cell 0 _ rfl; have y1 := yb.cell 1 _ rfl; have y2 := yb.cell 2 _ rfl; clear yb; go_simp; exact hV); intro K hK; simp only [Act.put, List.setIfInBounds_toArray, List.set_cons_zero, List.set_cons_succ]; refine hK _ ?_; clear hK K
    apply Muf.quiet; (· (simp only [List.getElem?_toArray, List.getElem?_cons_succ, List.getElem?_cons_zero]) <;> rfl); (· intro w' hR V hV; go_simp; exact hV); intro K hK; simp only [Act.put, List.setIfInBounds_toArray, List.set_cons_zero, List.set_cons_succ]; refine hK _ ?_; clear hK K
    refine Muf.mover (Muf.chk rfl (by decide) ?_)
    go_wp2_with fail
    refine (TextsSm_calls _).mono ?_
    rintro e w3 ⟨A2, c2, rfl, hC, hb3⟩
    have HC := Lib.hid hC
    have B3 := Lib.hid (below_step (show Below w2.heap.size w2 w2.drew by (repeat (with_reducible first | exact Below.refl _ _ | assumption | apply below_alloc | apply below_drewN | apply below_drew1 | (refine below_set ?_ (by simp only [alloc_size]; omega)) | (refine below_step ?_ (by assumption))))) hb3)
    clear hC hb3
    go_wp2_with fail
    refine ⟨B3.out, ?_⟩
    refine Muf.mover (Muf.chk rfl (by decide) ?_)
    go_wp2_with fail
    refine (smPlays A2 c2 _ HC.out f n hn0 hn1 l A c (HS.out.below (below_step B2.out B3.out)) HR.out).mono ?_
    rintro e w4 ⟨rfl, hb4⟩
    have B4 := Lib.hid (below_step B3.out hb4)
    clear hb4
    go_wp2_with fail
    refine ⟨B4.out, ?_⟩
    iterate 3 (apply Muf.quiet; (· (simp only [List.getElem?_toArray, List.getElem?_cons_succ, List.getElem?_cons_zero]) <;> rfl); (· intro w' hR V hV; go_simp; exact hV); intro K hK; simp only [Act.put, List.setIfInBounds_toArray, List.set_cons_zero, List.set_cons_succ]; refine hK _ ?_; clear hK K)
    refine Muf.done ?_
    go_wp2_with fail
    go_ret
    exact ⟨rfl, below_step B2.out B4.out⟩
end Go.Proofs.Ytegjkheecbmioaa
