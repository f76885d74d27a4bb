/- The walk of the reference's May. -/
import Derived.Test.YtegjkheecbmioaaOneA
import Derived.Test.YtegjkheecbmioaaMux
import Derived.Outline
namespace Go.Proofs.Ytegjkheecbmioaa
open Go.RowKit
set_option linter.unusedVariables false
set_option linter.unusedSimpArgs false
def smallB (v : Int) : Bool := decide (-999999999999999999 ≤ v) && decide (v ≤ 999999999999999999)
theorem small_calls (v : Int) (w : World) (h : smallB v = true) : Calls Try.prog 54 #[.int .i64 v] w fun e w' => e = .returned (.bool true) ∧ w = w' := by
  unfold smallB at h
  simp only [Bool.and_eq_true] at h
  obtain ⟨h1, h2⟩ := h
  go_enter Try.func54, Try.ntmps54
  go_wp2
  go_ret
  exact ⟨rfl, rfl⟩
/-- What 'May' asks of an instruction, the fields of its word given. -/
def mayF (H : List Nat) (x : Ins) : Bool :=
  decide (0 ≤ x.a ∧ x.a ≤ 15 ∧ 0 ≤ x.b ∧ x.b ≤ 15 ∧ 0 ≤ x.c ∧ x.c ≤ 15) && (H.contains 65 || x.a == 0) && (H.contains 66 || x.b == 0) && (H.contains 67 || x.c == 0) &&
  ((H.contains 78 || H.contains 84) || x.n == 0) && (H.contains 84 || smallB x.n) && (x.op != 7 || decide (x.a ≤ 13))
set_option maxRecDepth 100000 in
set_option maxHeartbeats 3200000 in
theorem may_AN (x : Ins) (k : Nat) (w : World) (hk : k < 22) (ho : x.op = (k : Int) + 1) (hH : (splitB (wordsT.getD k [])).2 = [65, 78]) (hm : mayF [65, 78] x = true) :
    Calls Try.prog 46 #[.agg #[.int .i64 x.op, .int .i64 x.a, .int .i64 x.b, .int .i64 x.c, .int .i64 x.n]] w fun e w' => e = .returned (.bool true) ∧ Below w.heap.size w w' := by
  simp only [mayF, Bool.and_eq_true, decide_eq_true_eq] at hm
  obtain ⟨⟨⟨⟨⟨⟨⟨a1, a2, b1, b2, c1, c2⟩, ma⟩, mb⟩, mc⟩, mn⟩, mt⟩, m7⟩ := hm
  have g0 : decide (x.op < 1) = false := decide_eq_false (by omega)
  have g1 : decide (22 < x.op) = false := decide_eq_false (by omega)
  have g2 : decide (x.a < 0) = false := decide_eq_false (by omega)
  have g3 : decide (15 < x.a) = false := decide_eq_false (by omega)
  have g4 : decide (x.b < 0) = false := decide_eq_false (by omega)
  have g5 : decide (15 < x.b) = false := decide_eq_false (by omega)
  have g6 : decide (x.c < 0) = false := decide_eq_false (by omega)
  have g7 : decide (15 < x.c) = false := decide_eq_false (by omega)
  have mb : (x.b == 0) = true := mb
  have mc : (x.c == 0) = true := mc
  have mt : smallB x.n = true := mt
  clear ma mn
  have hsm := fun w => small_calls x.n w mt
  clear mt
  have X1 := Lib.hid (Bx.new w [.int .i64 x.op, .int .i64 x.a, .int .i64 x.b, .int .i64 x.c, .int .i64 x.n] 95)
  have M7 := Lib.hid m7
  have HH := Lib.hid hH
  have HO := Lib.hid ho
  clear m7 hH ho
  go_enter Try.func46, Try.ntmps46
  go_wp2_with fail
  obtain ⟨y, hy⟩ : ∃ y, y = w.alloc (.cells #[.int .i64 x.op, .int .i64 x.a, .int .i64 x.b, .int .i64 x.c, .int .i64 x.n] 95) := ⟨_, rfl⟩
  have BY := Lib.hid (below_alloc (Below.refl w.heap.size w) (.cells #[.int .i64 x.op, .int .i64 x.a, .int .i64 x.b, .int .i64 x.c, .int .i64 x.n] 95))
  rw [← hy] at X1 BY ⊢
  clear hy
  have o1 : (0 : Int) ≤ (k : Int) := by omega
  have o2 : (k : Int) < 22 := by omega
  refine Mux.regionS [(true, 1), (true, 2), (true, 3), (false, 0), (false, 4), (false, 5), (false, 6), (false, 7), (true, 8), (true, 9), (true, 10), (true, 11)] [0, 7] (fun w' => Bx w.heap.size 95 [.int .i64 x.op, .int .i64 x.a, .int .i64 x.b, .int .i64 x.c, .int .i64 x.n] w') (by kernel_rfl) (by kernel_rfl) X1.out.drew ?_
  iterate 2 (apply Mux.quietS; (· rfl); (· intro w' hR V hV; have q0 := hR.cell 0 _ rfl; rw [HO.out] at q0; go_simp; exact hV); intro K hK; go_simp; refine hK _ ?_; clear hK K)
  (apply Mux.quietS; (· rfl); (· intro w' hR V hV; go_simp; exact hV); intro K hK; go_simp; refine hK _ ?_; clear hK K)
  refine Mux.mover_chkS rfl (by decide) ?_
  go_wp2_with fail
  refine (Words_calls _).mono ?_
  rintro e w2 ⟨A, rfl, hC, hb2⟩
  have X2 := Lib.hid (X1.out.drew.below hb2)
  have B2 := Lib.hid (below_step (below_drew1 BY.out) hb2)
  obtain ⟨ad, tt, rfl, ht, hcell⟩ := at_str' hC k (by show k < 22; omega)
  have hsp := words_split ht
  rw [HH.out] at hsp
  clear hC hb2 ht X1 BY
  go_wp2_with fail
  refine ⟨X2.out, ?_⟩
  refine Mux.moverS rfl (by decide) ?_
  go_wp2_with fail
  refine Mux.moverS rfl (by decide) ?_
  go_wp2_with fail
  refine Mux.moverS rfl (by decide) ?_
  go_wp2_with fail
  refine (hsp _).mono ?_
  rintro e w3 ⟨rfl, hb3⟩
  have X3 := Lib.hid (X2.out.below hb3)
  have B3 := Lib.hid (below_step B2.out hb3)
  clear hb3 hcell X2 B2 hsp
  go_wp2_with fail
  refine Mux.mover_chkS rfl (by decide) ?_
  go_wp2_with fail
  refine ⟨X3.out, ?_⟩
  iterate 4 (apply Mux.quietS; (· rfl); (· intro w' hR V hV; go_simp; exact hV); intro K hK; go_simp; refine hK _ ?_; clear hK K)
  refine Mux.doneS ?_
  go_wp2_with fail
  generalize bs (splitB (wordsT[k]?.getD [])).fst = W1
  have sz : (bs [65, 78]).size = 2 := rfl
  go_loop [5, 6, 7, 8, 9, 10] (fun va vb vc vn vt i => (i = .int .i64 0 ∧ va = .bool false ∧ vb = .bool false ∧ vc = .bool false ∧ vn = .bool false ∧ vt = .bool false) ∨ (i = .int .i64 1 ∧ va = .bool true ∧ vb = .bool false ∧ vc = .bool false ∧ vn = .bool false ∧ vt = .bool false) ∨ (i = .int .i64 2 ∧ va = .bool true ∧ vb = .bool false ∧ vc = .bool false ∧ vn = .bool true ∧ vt = .bool false)) (fun _ _ _ _ _ i => 3 - (intOf i).toNat)
  case atStart => simp
  case round =>
    rcases hrel with ⟨rfl, rfl, rfl, rfl, rfl, rfl⟩ | ⟨rfl, rfl, rfl, rfl, rfl, rfl⟩ | ⟨rfl, rfl, rfl, rfl, rfl, rfl⟩
    · have hq : (bs [65, 78])[0].toNat = 65 := rfl
      go_wp2_with fail
      go_round
      case rel => simp
      case measure => simp [intOf]
    · have hq : (bs [65, 78])[1].toNat = 78 := rfl
      go_wp2_with fail
      go_round
      case rel => simp
      case measure => simp [intOf]
    · have y0 := X3.out.cell 0 _ rfl
      have y1 := X3.out.cell 1 _ rfl
      have y2 := X3.out.cell 2 _ rfl
      have y3 := X3.out.cell 3 _ rfl
      have y4 := X3.out.cell 4 _ rfl
      by_cases h7 : x.op = 7
      · have s1 : (x.op != 7) = false := by simp [h7]
        have s2 : decide (x.a ≤ 13) = true := by have := M7.out; simpa [h7] using this
        clear h7
        go_wp2_with (go_at_call 54; refine (hsm _).mono ?_; rintro e w5 ⟨rfl, rfl⟩)
        go_ret
        exact ⟨rfl, B3.out⟩
      · have s1 : (x.op != 7) = true := by simp [h7]
        clear h7
        go_wp2_with (go_at_call 54; refine (hsm _).mono ?_; rintro e w5 ⟨rfl, rfl⟩)
        go_ret
        exact ⟨rfl, B3.out⟩
set_option maxRecDepth 100000 in
set_option maxHeartbeats 3200000 in
theorem may_AB (x : Ins) (k : Nat) (w : World) (hk : k < 22) (ho : x.op = (k : Int) + 1) (hH : (splitB (wordsT.getD k [])).2 = [65, 66]) (hm : mayF [65, 66] x = true) :
    Calls Try.prog 46 #[.agg #[.int .i64 x.op, .int .i64 x.a, .int .i64 x.b, .int .i64 x.c, .int .i64 x.n]] w fun e w' => e = .returned (.bool true) ∧ Below w.heap.size w w' := by
  simp only [mayF, Bool.and_eq_true, decide_eq_true_eq] at hm
  obtain ⟨⟨⟨⟨⟨⟨⟨a1, a2, b1, b2, c1, c2⟩, ma⟩, mb⟩, mc⟩, mn⟩, mt⟩, m7⟩ := hm
  have g0 : decide (x.op < 1) = false := decide_eq_false (by omega)
  have g1 : decide (22 < x.op) = false := decide_eq_false (by omega)
  have g2 : decide (x.a < 0) = false := decide_eq_false (by omega)
  have g3 : decide (15 < x.a) = false := decide_eq_false (by omega)
  have g4 : decide (x.b < 0) = false := decide_eq_false (by omega)
  have g5 : decide (15 < x.b) = false := decide_eq_false (by omega)
  have g6 : decide (x.c < 0) = false := decide_eq_false (by omega)
  have g7 : decide (15 < x.c) = false := decide_eq_false (by omega)
  have mc : (x.c == 0) = true := mc
  have mn : (x.n == 0) = true := mn
  have mt : smallB x.n = true := mt
  clear ma mb
  have hsm := fun w => small_calls x.n w mt
  clear mt
  have X1 := Lib.hid (Bx.new w [.int .i64 x.op, .int .i64 x.a, .int .i64 x.b, .int .i64 x.c, .int .i64 x.n] 95)
  have M7 := Lib.hid m7
  have HH := Lib.hid hH
  have HO := Lib.hid ho
  clear m7 hH ho
  go_enter Try.func46, Try.ntmps46
  go_wp2_with fail
  obtain ⟨y, hy⟩ : ∃ y, y = w.alloc (.cells #[.int .i64 x.op, .int .i64 x.a, .int .i64 x.b, .int .i64 x.c, .int .i64 x.n] 95) := ⟨_, rfl⟩
  have BY := Lib.hid (below_alloc (Below.refl w.heap.size w) (.cells #[.int .i64 x.op, .int .i64 x.a, .int .i64 x.b, .int .i64 x.c, .int .i64 x.n] 95))
  rw [← hy] at X1 BY ⊢
  clear hy
  have o1 : (0 : Int) ≤ (k : Int) := by omega
  have o2 : (k : Int) < 22 := by omega
  refine Mux.regionS [(true, 1), (true, 2), (true, 3), (false, 0), (false, 4), (false, 5), (false, 6), (false, 7), (true, 8), (true, 9), (true, 10), (true, 11)] [0, 7] (fun w' => Bx w.heap.size 95 [.int .i64 x.op, .int .i64 x.a, .int .i64 x.b, .int .i64 x.c, .int .i64 x.n] w') (by kernel_rfl) (by kernel_rfl) X1.out.drew ?_
  iterate 2 (apply Mux.quietS; (· rfl); (· intro w' hR V hV; have q0 := hR.cell 0 _ rfl; rw [HO.out] at q0; go_simp; exact hV); intro K hK; go_simp; refine hK _ ?_; clear hK K)
  (apply Mux.quietS; (· rfl); (· intro w' hR V hV; go_simp; exact hV); intro K hK; go_simp; refine hK _ ?_; clear hK K)
  refine Mux.mover_chkS rfl (by decide) ?_
  go_wp2_with fail
  refine (Words_calls _).mono ?_
  rintro e w2 ⟨A, rfl, hC, hb2⟩
  have X2 := Lib.hid (X1.out.drew.below hb2)
  have B2 := Lib.hid (below_step (below_drew1 BY.out) hb2)
  obtain ⟨ad, tt, rfl, ht, hcell⟩ := at_str' hC k (by show k < 22; omega)
  have hsp := words_split ht
  rw [HH.out] at hsp
  clear hC hb2 ht X1 BY
  go_wp2_with fail
  refine ⟨X2.out, ?_⟩
  refine Mux.moverS rfl (by decide) ?_
  go_wp2_with fail
  refine Mux.moverS rfl (by decide) ?_
  go_wp2_with fail
  refine Mux.moverS rfl (by decide) ?_
  go_wp2_with fail
  refine (hsp _).mono ?_
  rintro e w3 ⟨rfl, hb3⟩
  have X3 := Lib.hid (X2.out.below hb3)
  have B3 := Lib.hid (below_step B2.out hb3)
  clear hb3 hcell X2 B2 hsp
  go_wp2_with fail
  refine Mux.mover_chkS rfl (by decide) ?_
  go_wp2_with fail
  refine ⟨X3.out, ?_⟩
  iterate 4 (apply Mux.quietS; (· rfl); (· intro w' hR V hV; go_simp; exact hV); intro K hK; go_simp; refine hK _ ?_; clear hK K)
  refine Mux.doneS ?_
  go_wp2_with fail
  generalize bs (splitB (wordsT[k]?.getD [])).fst = W1
  have sz : (bs [65, 66]).size = 2 := rfl
  go_loop [5, 6, 7, 8, 9, 10] (fun va vb vc vn vt i => (i = .int .i64 0 ∧ va = .bool false ∧ vb = .bool false ∧ vc = .bool false ∧ vn = .bool false ∧ vt = .bool false) ∨ (i = .int .i64 1 ∧ va = .bool true ∧ vb = .bool false ∧ vc = .bool false ∧ vn = .bool false ∧ vt = .bool false) ∨ (i = .int .i64 2 ∧ va = .bool true ∧ vb = .bool true ∧ vc = .bool false ∧ vn = .bool false ∧ vt = .bool false)) (fun _ _ _ _ _ i => 3 - (intOf i).toNat)
  case atStart => simp
  case round =>
    rcases hrel with ⟨rfl, rfl, rfl, rfl, rfl, rfl⟩ | ⟨rfl, rfl, rfl, rfl, rfl, rfl⟩ | ⟨rfl, rfl, rfl, rfl, rfl, rfl⟩
    · have hq : (bs [65, 66])[0].toNat = 65 := rfl
      go_wp2_with fail
      go_round
      case rel => simp
      case measure => simp [intOf]
    · have hq : (bs [65, 66])[1].toNat = 66 := rfl
      go_wp2_with fail
      go_round
      case rel => simp
      case measure => simp [intOf]
    · have y0 := X3.out.cell 0 _ rfl
      have y1 := X3.out.cell 1 _ rfl
      have y2 := X3.out.cell 2 _ rfl
      have y3 := X3.out.cell 3 _ rfl
      have y4 := X3.out.cell 4 _ rfl
      by_cases h7 : x.op = 7
      · have s1 : (x.op != 7) = false := by simp [h7]
        have s2 : decide (x.a ≤ 13) = true := by have := M7.out; simpa [h7] using this
        clear h7
        go_wp2_with (go_at_call 54; refine (hsm _).mono ?_; rintro e w5 ⟨rfl, rfl⟩)
        go_ret
        exact ⟨rfl, B3.out⟩
      · have s1 : (x.op != 7) = true := by simp [h7]
        clear h7
        go_wp2_with (go_at_call 54; refine (hsm _).mono ?_; rintro e w5 ⟨rfl, rfl⟩)
        go_ret
        exact ⟨rfl, B3.out⟩
set_option maxRecDepth 100000 in
set_option maxHeartbeats 3200000 in
theorem may_ABC (x : Ins) (k : Nat) (w : World) (hk : k < 22) (ho : x.op = (k : Int) + 1) (hH : (splitB (wordsT.getD k [])).2 = [65, 66, 67]) (hm : mayF [65, 66, 67] x = true) :
    Calls Try.prog 46 #[.agg #[.int .i64 x.op, .int .i64 x.a, .int .i64 x.b, .int .i64 x.c, .int .i64 x.n]] w fun e w' => e = .returned (.bool true) ∧ Below w.heap.size w w' := by
  simp only [mayF, Bool.and_eq_true, decide_eq_true_eq] at hm
  obtain ⟨⟨⟨⟨⟨⟨⟨a1, a2, b1, b2, c1, c2⟩, ma⟩, mb⟩, mc⟩, mn⟩, mt⟩, m7⟩ := hm
  have g0 : decide (x.op < 1) = false := decide_eq_false (by omega)
  have g1 : decide (22 < x.op) = false := decide_eq_false (by omega)
  have g2 : decide (x.a < 0) = false := decide_eq_false (by omega)
  have g3 : decide (15 < x.a) = false := decide_eq_false (by omega)
  have g4 : decide (x.b < 0) = false := decide_eq_false (by omega)
  have g5 : decide (15 < x.b) = false := decide_eq_false (by omega)
  have g6 : decide (x.c < 0) = false := decide_eq_false (by omega)
  have g7 : decide (15 < x.c) = false := decide_eq_false (by omega)
  have mn : (x.n == 0) = true := mn
  have mt : smallB x.n = true := mt
  clear ma mb mc
  have hsm := fun w => small_calls x.n w mt
  clear mt
  have X1 := Lib.hid (Bx.new w [.int .i64 x.op, .int .i64 x.a, .int .i64 x.b, .int .i64 x.c, .int .i64 x.n] 95)
  have M7 := Lib.hid m7
  have HH := Lib.hid hH
  have HO := Lib.hid ho
  clear m7 hH ho
  go_enter Try.func46, Try.ntmps46
  go_wp2_with fail
  obtain ⟨y, hy⟩ : ∃ y, y = w.alloc (.cells #[.int .i64 x.op, .int .i64 x.a, .int .i64 x.b, .int .i64 x.c, .int .i64 x.n] 95) := ⟨_, rfl⟩
  have BY := Lib.hid (below_alloc (Below.refl w.heap.size w) (.cells #[.int .i64 x.op, .int .i64 x.a, .int .i64 x.b, .int .i64 x.c, .int .i64 x.n] 95))
  rw [← hy] at X1 BY ⊢
  clear hy
  have o1 : (0 : Int) ≤ (k : Int) := by omega
  have o2 : (k : Int) < 22 := by omega
  refine Mux.regionS [(true, 1), (true, 2), (true, 3), (false, 0), (false, 4), (false, 5), (false, 6), (false, 7), (true, 8), (true, 9), (true, 10), (true, 11)] [0, 7] (fun w' => Bx w.heap.size 95 [.int .i64 x.op, .int .i64 x.a, .int .i64 x.b, .int .i64 x.c, .int .i64 x.n] w') (by kernel_rfl) (by kernel_rfl) X1.out.drew ?_
  iterate 2 (apply Mux.quietS; (· rfl); (· intro w' hR V hV; have q0 := hR.cell 0 _ rfl; rw [HO.out] at q0; go_simp; exact hV); intro K hK; go_simp; refine hK _ ?_; clear hK K)
  (apply Mux.quietS; (· rfl); (· intro w' hR V hV; go_simp; exact hV); intro K hK; go_simp; refine hK _ ?_; clear hK K)
  refine Mux.mover_chkS rfl (by decide) ?_
  go_wp2_with fail
  refine (Words_calls _).mono ?_
  rintro e w2 ⟨A, rfl, hC, hb2⟩
  have X2 := Lib.hid (X1.out.drew.below hb2)
  have B2 := Lib.hid (below_step (below_drew1 BY.out) hb2)
  obtain ⟨ad, tt, rfl, ht, hcell⟩ := at_str' hC k (by show k < 22; omega)
  have hsp := words_split ht
  rw [HH.out] at hsp
  clear hC hb2 ht X1 BY
  go_wp2_with fail
  refine ⟨X2.out, ?_⟩
  refine Mux.moverS rfl (by decide) ?_
  go_wp2_with fail
  refine Mux.moverS rfl (by decide) ?_
  go_wp2_with fail
  refine Mux.moverS rfl (by decide) ?_
  go_wp2_with fail
  refine (hsp _).mono ?_
  rintro e w3 ⟨rfl, hb3⟩
  have X3 := Lib.hid (X2.out.below hb3)
  have B3 := Lib.hid (below_step B2.out hb3)
  clear hb3 hcell X2 B2 hsp
  go_wp2_with fail
  refine Mux.mover_chkS rfl (by decide) ?_
  go_wp2_with fail
  refine ⟨X3.out, ?_⟩
  iterate 4 (apply Mux.quietS; (· rfl); (· intro w' hR V hV; go_simp; exact hV); intro K hK; go_simp; refine hK _ ?_; clear hK K)
  refine Mux.doneS ?_
  go_wp2_with fail
  generalize bs (splitB (wordsT[k]?.getD [])).fst = W1
  have sz : (bs [65, 66, 67]).size = 3 := rfl
  go_loop [5, 6, 7, 8, 9, 10] (fun va vb vc vn vt i => (i = .int .i64 0 ∧ va = .bool false ∧ vb = .bool false ∧ vc = .bool false ∧ vn = .bool false ∧ vt = .bool false) ∨ (i = .int .i64 1 ∧ va = .bool true ∧ vb = .bool false ∧ vc = .bool false ∧ vn = .bool false ∧ vt = .bool false) ∨ (i = .int .i64 2 ∧ va = .bool true ∧ vb = .bool true ∧ vc = .bool false ∧ vn = .bool false ∧ vt = .bool false) ∨ (i = .int .i64 3 ∧ va = .bool true ∧ vb = .bool true ∧ vc = .bool true ∧ vn = .bool false ∧ vt = .bool false)) (fun _ _ _ _ _ i => 4 - (intOf i).toNat)
  case atStart => simp
  case round =>
    rcases hrel with ⟨rfl, rfl, rfl, rfl, rfl, rfl⟩ | ⟨rfl, rfl, rfl, rfl, rfl, rfl⟩ | ⟨rfl, rfl, rfl, rfl, rfl, rfl⟩ | ⟨rfl, rfl, rfl, rfl, rfl, rfl⟩
    · have hq : (bs [65, 66, 67])[0].toNat = 65 := rfl
      go_wp2_with fail
      go_round
      case rel => simp
      case measure => simp [intOf]
    · have hq : (bs [65, 66, 67])[1].toNat = 66 := rfl
      go_wp2_with fail
      go_round
      case rel => simp
      case measure => simp [intOf]
    · have hq : (bs [65, 66, 67])[2].toNat = 67 := rfl
      go_wp2_with fail
      go_round
      case rel => simp
      case measure => simp [intOf]
    · have y0 := X3.out.cell 0 _ rfl
      have y1 := X3.out.cell 1 _ rfl
      have y2 := X3.out.cell 2 _ rfl
      have y3 := X3.out.cell 3 _ rfl
      have y4 := X3.out.cell 4 _ rfl
      by_cases h7 : x.op = 7
      · have s1 : (x.op != 7) = false := by simp [h7]
        have s2 : decide (x.a ≤ 13) = true := by have := M7.out; simpa [h7] using this
        clear h7
        go_wp2_with (go_at_call 54; refine (hsm _).mono ?_; rintro e w5 ⟨rfl, rfl⟩)
        go_ret
        exact ⟨rfl, B3.out⟩
      · have s1 : (x.op != 7) = true := by simp [h7]
        clear h7
        go_wp2_with (go_at_call 54; refine (hsm _).mono ?_; rintro e w5 ⟨rfl, rfl⟩)
        go_ret
        exact ⟨rfl, B3.out⟩
set_option maxRecDepth 100000 in
set_option maxHeartbeats 3200000 in
theorem may_ABN (x : Ins) (k : Nat) (w : World) (hk : k < 22) (ho : x.op = (k : Int) + 1) (hH : (splitB (wordsT.getD k [])).2 = [65, 66, 78]) (hm : mayF [65, 66, 78] x = true) :
    Calls Try.prog 46 #[.agg #[.int .i64 x.op, .int .i64 x.a, .int .i64 x.b, .int .i64 x.c, .int .i64 x.n]] w fun e w' => e = .returned (.bool true) ∧ Below w.heap.size w w' := by
  simp only [mayF, Bool.and_eq_true, decide_eq_true_eq] at hm
  obtain ⟨⟨⟨⟨⟨⟨⟨a1, a2, b1, b2, c1, c2⟩, ma⟩, mb⟩, mc⟩, mn⟩, mt⟩, m7⟩ := hm
  have g0 : decide (x.op < 1) = false := decide_eq_false (by omega)
  have g1 : decide (22 < x.op) = false := decide_eq_false (by omega)
  have g2 : decide (x.a < 0) = false := decide_eq_false (by omega)
  have g3 : decide (15 < x.a) = false := decide_eq_false (by omega)
  have g4 : decide (x.b < 0) = false := decide_eq_false (by omega)
  have g5 : decide (15 < x.b) = false := decide_eq_false (by omega)
  have g6 : decide (x.c < 0) = false := decide_eq_false (by omega)
  have g7 : decide (15 < x.c) = false := decide_eq_false (by omega)
  have mc : (x.c == 0) = true := mc
  have mt : smallB x.n = true := mt
  clear ma mb mn
  have hsm := fun w => small_calls x.n w mt
  clear mt
  have X1 := Lib.hid (Bx.new w [.int .i64 x.op, .int .i64 x.a, .int .i64 x.b, .int .i64 x.c, .int .i64 x.n] 95)
  have M7 := Lib.hid m7
  have HH := Lib.hid hH
  have HO := Lib.hid ho
  clear m7 hH ho
  go_enter Try.func46, Try.ntmps46
  go_wp2_with fail
  obtain ⟨y, hy⟩ : ∃ y, y = w.alloc (.cells #[.int .i64 x.op, .int .i64 x.a, .int .i64 x.b, .int .i64 x.c, .int .i64 x.n] 95) := ⟨_, rfl⟩
  have BY := Lib.hid (below_alloc (Below.refl w.heap.size w) (.cells #[.int .i64 x.op, .int .i64 x.a, .int .i64 x.b, .int .i64 x.c, .int .i64 x.n] 95))
  rw [← hy] at X1 BY ⊢
  clear hy
  have o1 : (0 : Int) ≤ (k : Int) := by omega
  have o2 : (k : Int) < 22 := by omega
  refine Mux.regionS [(true, 1), (true, 2), (true, 3), (false, 0), (false, 4), (false, 5), (false, 6), (false, 7), (true, 8), (true, 9), (true, 10), (true, 11)] [0, 7] (fun w' => Bx w.heap.size 95 [.int .i64 x.op, .int .i64 x.a, .int .i64 x.b, .int .i64 x.c, .int .i64 x.n] w') (by kernel_rfl) (by kernel_rfl) X1.out.drew ?_
  iterate 2 (apply Mux.quietS; (· rfl); (· intro w' hR V hV; have q0 := hR.cell 0 _ rfl; rw [HO.out] at q0; go_simp; exact hV); intro K hK; go_simp; refine hK _ ?_; clear hK K)
  (apply Mux.quietS; (· rfl); (· intro w' hR V hV; go_simp; exact hV); intro K hK; go_simp; refine hK _ ?_; clear hK K)
  refine Mux.mover_chkS rfl (by decide) ?_
  go_wp2_with fail
  refine (Words_calls _).mono ?_
  rintro e w2 ⟨A, rfl, hC, hb2⟩
  have X2 := Lib.hid (X1.out.drew.below hb2)
  have B2 := Lib.hid (below_step (below_drew1 BY.out) hb2)
  obtain ⟨ad, tt, rfl, ht, hcell⟩ := at_str' hC k (by show k < 22; omega)
  have hsp := words_split ht
  rw [HH.out] at hsp
  clear hC hb2 ht X1 BY
  go_wp2_with fail
  refine ⟨X2.out, ?_⟩
  refine Mux.moverS rfl (by decide) ?_
  go_wp2_with fail
  refine Mux.moverS rfl (by decide) ?_
  go_wp2_with fail
  refine Mux.moverS rfl (by decide) ?_
  go_wp2_with fail
  refine (hsp _).mono ?_
  rintro e w3 ⟨rfl, hb3⟩
  have X3 := Lib.hid (X2.out.below hb3)
  have B3 := Lib.hid (below_step B2.out hb3)
  clear hb3 hcell X2 B2 hsp
  go_wp2_with fail
  refine Mux.mover_chkS rfl (by decide) ?_
  go_wp2_with fail
  refine ⟨X3.out, ?_⟩
  iterate 4 (apply Mux.quietS; (· rfl); (· intro w' hR V hV; go_simp; exact hV); intro K hK; go_simp; refine hK _ ?_; clear hK K)
  refine Mux.doneS ?_
  go_wp2_with fail
  generalize bs (splitB (wordsT[k]?.getD [])).fst = W1
  have sz : (bs [65, 66, 78]).size = 3 := rfl
  go_loop [5, 6, 7, 8, 9, 10] (fun va vb vc vn vt i => (i = .int .i64 0 ∧ va = .bool false ∧ vb = .bool false ∧ vc = .bool false ∧ vn = .bool false ∧ vt = .bool false) ∨ (i = .int .i64 1 ∧ va = .bool true ∧ vb = .bool false ∧ vc = .bool false ∧ vn = .bool false ∧ vt = .bool false) ∨ (i = .int .i64 2 ∧ va = .bool true ∧ vb = .bool true ∧ vc = .bool false ∧ vn = .bool false ∧ vt = .bool false) ∨ (i = .int .i64 3 ∧ va = .bool true ∧ vb = .bool true ∧ vc = .bool false ∧ vn = .bool true ∧ vt = .bool false)) (fun _ _ _ _ _ i => 4 - (intOf i).toNat)
  case atStart => simp
  case round =>
    rcases hrel with ⟨rfl, rfl, rfl, rfl, rfl, rfl⟩ | ⟨rfl, rfl, rfl, rfl, rfl, rfl⟩ | ⟨rfl, rfl, rfl, rfl, rfl, rfl⟩ | ⟨rfl, rfl, rfl, rfl, rfl, rfl⟩
    · have hq : (bs [65, 66, 78])[0].toNat = 65 := rfl
      go_wp2_with fail
      go_round
      case rel => simp
      case measure => simp [intOf]
    · have hq : (bs [65, 66, 78])[1].toNat = 66 := rfl
      go_wp2_with fail
      go_round
      case rel => simp
      case measure => simp [intOf]
    · have hq : (bs [65, 66, 78])[2].toNat = 78 := rfl
      go_wp2_with fail
      go_round
      case rel => simp
      case measure => simp [intOf]
    · have y0 := X3.out.cell 0 _ rfl
      have y1 := X3.out.cell 1 _ rfl
      have y2 := X3.out.cell 2 _ rfl
      have y3 := X3.out.cell 3 _ rfl
      have y4 := X3.out.cell 4 _ rfl
      by_cases h7 : x.op = 7
      · have s1 : (x.op != 7) = false := by simp [h7]
        have s2 : decide (x.a ≤ 13) = true := by have := M7.out; simpa [h7] using this
        clear h7
        go_wp2_with (go_at_call 54; refine (hsm _).mono ?_; rintro e w5 ⟨rfl, rfl⟩)
        go_ret
        exact ⟨rfl, B3.out⟩
      · have s1 : (x.op != 7) = true := by simp [h7]
        clear h7
        go_wp2_with (go_at_call 54; refine (hsm _).mono ?_; rintro e w5 ⟨rfl, rfl⟩)
        go_ret
        exact ⟨rfl, B3.out⟩
set_option maxRecDepth 100000 in
set_option maxHeartbeats 3200000 in
theorem may_T (x : Ins) (k : Nat) (w : World) (hk : k < 22) (ho : x.op = (k : Int) + 1) (hH : (splitB (wordsT.getD k [])).2 = [84]) (hm : mayF [84] x = true) :
    Calls Try.prog 46 #[.agg #[.int .i64 x.op, .int .i64 x.a, .int .i64 x.b, .int .i64 x.c, .int .i64 x.n]] w fun e w' => e = .returned (.bool true) ∧ Below w.heap.size w w' := by
  simp only [mayF, Bool.and_eq_true, decide_eq_true_eq] at hm
  obtain ⟨⟨⟨⟨⟨⟨⟨a1, a2, b1, b2, c1, c2⟩, ma⟩, mb⟩, mc⟩, mn⟩, mt⟩, m7⟩ := hm
  have g0 : decide (x.op < 1) = false := decide_eq_false (by omega)
  have g1 : decide (22 < x.op) = false := decide_eq_false (by omega)
  have g2 : decide (x.a < 0) = false := decide_eq_false (by omega)
  have g3 : decide (15 < x.a) = false := decide_eq_false (by omega)
  have g4 : decide (x.b < 0) = false := decide_eq_false (by omega)
  have g5 : decide (15 < x.b) = false := decide_eq_false (by omega)
  have g6 : decide (x.c < 0) = false := decide_eq_false (by omega)
  have g7 : decide (15 < x.c) = false := decide_eq_false (by omega)
  have ma : (x.a == 0) = true := ma
  have mb : (x.b == 0) = true := mb
  have mc : (x.c == 0) = true := mc
  clear mn mt
  have X1 := Lib.hid (Bx.new w [.int .i64 x.op, .int .i64 x.a, .int .i64 x.b, .int .i64 x.c, .int .i64 x.n] 95)
  have M7 := Lib.hid m7
  have HH := Lib.hid hH
  have HO := Lib.hid ho
  clear m7 hH ho
  go_enter Try.func46, Try.ntmps46
  go_wp2_with fail
  obtain ⟨y, hy⟩ : ∃ y, y = w.alloc (.cells #[.int .i64 x.op, .int .i64 x.a, .int .i64 x.b, .int .i64 x.c, .int .i64 x.n] 95) := ⟨_, rfl⟩
  have BY := Lib.hid (below_alloc (Below.refl w.heap.size w) (.cells #[.int .i64 x.op, .int .i64 x.a, .int .i64 x.b, .int .i64 x.c, .int .i64 x.n] 95))
  rw [← hy] at X1 BY ⊢
  clear hy
  have o1 : (0 : Int) ≤ (k : Int) := by omega
  have o2 : (k : Int) < 22 := by omega
  refine Mux.regionS [(true, 1), (true, 2), (true, 3), (false, 0), (false, 4), (false, 5), (false, 6), (false, 7), (true, 8), (true, 9), (true, 10), (true, 11)] [0, 7] (fun w' => Bx w.heap.size 95 [.int .i64 x.op, .int .i64 x.a, .int .i64 x.b, .int .i64 x.c, .int .i64 x.n] w') (by kernel_rfl) (by kernel_rfl) X1.out.drew ?_
  iterate 2 (apply Mux.quietS; (· rfl); (· intro w' hR V hV; have q0 := hR.cell 0 _ rfl; rw [HO.out] at q0; go_simp; exact hV); intro K hK; go_simp; refine hK _ ?_; clear hK K)
  (apply Mux.quietS; (· rfl); (· intro w' hR V hV; go_simp; exact hV); intro K hK; go_simp; refine hK _ ?_; clear hK K)
  refine Mux.mover_chkS rfl (by decide) ?_
  go_wp2_with fail
  refine (Words_calls _).mono ?_
  rintro e w2 ⟨A, rfl, hC, hb2⟩
  have X2 := Lib.hid (X1.out.drew.below hb2)
  have B2 := Lib.hid (below_step (below_drew1 BY.out) hb2)
  obtain ⟨ad, tt, rfl, ht, hcell⟩ := at_str' hC k (by show k < 22; omega)
  have hsp := words_split ht
  rw [HH.out] at hsp
  clear hC hb2 ht X1 BY
  go_wp2_with fail
  refine ⟨X2.out, ?_⟩
  refine Mux.moverS rfl (by decide) ?_
  go_wp2_with fail
  refine Mux.moverS rfl (by decide) ?_
  go_wp2_with fail
  refine Mux.moverS rfl (by decide) ?_
  go_wp2_with fail
  refine (hsp _).mono ?_
  rintro e w3 ⟨rfl, hb3⟩
  have X3 := Lib.hid (X2.out.below hb3)
  have B3 := Lib.hid (below_step B2.out hb3)
  clear hb3 hcell X2 B2 hsp
  go_wp2_with fail
  refine Mux.mover_chkS rfl (by decide) ?_
  go_wp2_with fail
  refine ⟨X3.out, ?_⟩
  iterate 4 (apply Mux.quietS; (· rfl); (· intro w' hR V hV; go_simp; exact hV); intro K hK; go_simp; refine hK _ ?_; clear hK K)
  refine Mux.doneS ?_
  go_wp2_with fail
  generalize bs (splitB (wordsT[k]?.getD [])).fst = W1
  have sz : (bs [84]).size = 1 := rfl
  go_loop [5, 6, 7, 8, 9, 10] (fun va vb vc vn vt i => (i = .int .i64 0 ∧ va = .bool false ∧ vb = .bool false ∧ vc = .bool false ∧ vn = .bool false ∧ vt = .bool false) ∨ (i = .int .i64 1 ∧ va = .bool false ∧ vb = .bool false ∧ vc = .bool false ∧ vn = .bool false ∧ vt = .bool true)) (fun _ _ _ _ _ i => 2 - (intOf i).toNat)
  case atStart => simp
  case round =>
    rcases hrel with ⟨rfl, rfl, rfl, rfl, rfl, rfl⟩ | ⟨rfl, rfl, rfl, rfl, rfl, rfl⟩
    · have hq : (bs [84])[0].toNat = 84 := rfl
      go_wp2_with fail
      go_round
      case rel => simp
      case measure => simp [intOf]
    · have y0 := X3.out.cell 0 _ rfl
      have y1 := X3.out.cell 1 _ rfl
      have y2 := X3.out.cell 2 _ rfl
      have y3 := X3.out.cell 3 _ rfl
      have y4 := X3.out.cell 4 _ rfl
      by_cases h7 : x.op = 7
      · have s1 : (x.op != 7) = false := by simp [h7]
        have s2 : decide (x.a ≤ 13) = true := by have := M7.out; simpa [h7] using this
        clear h7
        go_wp2_with fail
        go_ret
        exact ⟨rfl, B3.out⟩
      · have s1 : (x.op != 7) = true := by simp [h7]
        clear h7
        go_wp2_with fail
        go_ret
        exact ⟨rfl, B3.out⟩
set_option maxRecDepth 100000 in
set_option maxHeartbeats 3200000 in
theorem may_ABT (x : Ins) (k : Nat) (w : World) (hk : k < 22) (ho : x.op = (k : Int) + 1) (hH : (splitB (wordsT.getD k [])).2 = [65, 66, 84]) (hm : mayF [65, 66, 84] x = true) :
    Calls Try.prog 46 #[.agg #[.int .i64 x.op, .int .i64 x.a, .int .i64 x.b, .int .i64 x.c, .int .i64 x.n]] w fun e w' => e = .returned (.bool true) ∧ Below w.heap.size w w' := by
  simp only [mayF, Bool.and_eq_true, decide_eq_true_eq] at hm
  obtain ⟨⟨⟨⟨⟨⟨⟨a1, a2, b1, b2, c1, c2⟩, ma⟩, mb⟩, mc⟩, mn⟩, mt⟩, m7⟩ := hm
  have g0 : decide (x.op < 1) = false := decide_eq_false (by omega)
  have g1 : decide (22 < x.op) = false := decide_eq_false (by omega)
  have g2 : decide (x.a < 0) = false := decide_eq_false (by omega)
  have g3 : decide (15 < x.a) = false := decide_eq_false (by omega)
  have g4 : decide (x.b < 0) = false := decide_eq_false (by omega)
  have g5 : decide (15 < x.b) = false := decide_eq_false (by omega)
  have g6 : decide (x.c < 0) = false := decide_eq_false (by omega)
  have g7 : decide (15 < x.c) = false := decide_eq_false (by omega)
  have mc : (x.c == 0) = true := mc
  clear ma mb mn mt
  have X1 := Lib.hid (Bx.new w [.int .i64 x.op, .int .i64 x.a, .int .i64 x.b, .int .i64 x.c, .int .i64 x.n] 95)
  have M7 := Lib.hid m7
  have HH := Lib.hid hH
  have HO := Lib.hid ho
  clear m7 hH ho
  go_enter Try.func46, Try.ntmps46
  go_wp2_with fail
  obtain ⟨y, hy⟩ : ∃ y, y = w.alloc (.cells #[.int .i64 x.op, .int .i64 x.a, .int .i64 x.b, .int .i64 x.c, .int .i64 x.n] 95) := ⟨_, rfl⟩
  have BY := Lib.hid (below_alloc (Below.refl w.heap.size w) (.cells #[.int .i64 x.op, .int .i64 x.a, .int .i64 x.b, .int .i64 x.c, .int .i64 x.n] 95))
  rw [← hy] at X1 BY ⊢
  clear hy
  have o1 : (0 : Int) ≤ (k : Int) := by omega
  have o2 : (k : Int) < 22 := by omega
  refine Mux.regionS [(true, 1), (true, 2), (true, 3), (false, 0), (false, 4), (false, 5), (false, 6), (false, 7), (true, 8), (true, 9), (true, 10), (true, 11)] [0, 7] (fun w' => Bx w.heap.size 95 [.int .i64 x.op, .int .i64 x.a, .int .i64 x.b, .int .i64 x.c, .int .i64 x.n] w') (by kernel_rfl) (by kernel_rfl) X1.out.drew ?_
  iterate 2 (apply Mux.quietS; (· rfl); (· intro w' hR V hV; have q0 := hR.cell 0 _ rfl; rw [HO.out] at q0; go_simp; exact hV); intro K hK; go_simp; refine hK _ ?_; clear hK K)
  (apply Mux.quietS; (· rfl); (· intro w' hR V hV; go_simp; exact hV); intro K hK; go_simp; refine hK _ ?_; clear hK K)
  refine Mux.mover_chkS rfl (by decide) ?_
  go_wp2_with fail
  refine (Words_calls _).mono ?_
  rintro e w2 ⟨A, rfl, hC, hb2⟩
  have X2 := Lib.hid (X1.out.drew.below hb2)
  have B2 := Lib.hid (below_step (below_drew1 BY.out) hb2)
  obtain ⟨ad, tt, rfl, ht, hcell⟩ := at_str' hC k (by show k < 22; omega)
  have hsp := words_split ht
  rw [HH.out] at hsp
  clear hC hb2 ht X1 BY
  go_wp2_with fail
  refine ⟨X2.out, ?_⟩
  refine Mux.moverS rfl (by decide) ?_
  go_wp2_with fail
  refine Mux.moverS rfl (by decide) ?_
  go_wp2_with fail
  refine Mux.moverS rfl (by decide) ?_
  go_wp2_with fail
  refine (hsp _).mono ?_
  rintro e w3 ⟨rfl, hb3⟩
  have X3 := Lib.hid (X2.out.below hb3)
  have B3 := Lib.hid (below_step B2.out hb3)
  clear hb3 hcell X2 B2 hsp
  go_wp2_with fail
  refine Mux.mover_chkS rfl (by decide) ?_
  go_wp2_with fail
  refine ⟨X3.out, ?_⟩
  iterate 4 (apply Mux.quietS; (· rfl); (· intro w' hR V hV; go_simp; exact hV); intro K hK; go_simp; refine hK _ ?_; clear hK K)
  refine Mux.doneS ?_
  go_wp2_with fail
  generalize bs (splitB (wordsT[k]?.getD [])).fst = W1
  have sz : (bs [65, 66, 84]).size = 3 := rfl
  go_loop [5, 6, 7, 8, 9, 10] (fun va vb vc vn vt i => (i = .int .i64 0 ∧ va = .bool false ∧ vb = .bool false ∧ vc = .bool false ∧ vn = .bool false ∧ vt = .bool false) ∨ (i = .int .i64 1 ∧ va = .bool true ∧ vb = .bool false ∧ vc = .bool false ∧ vn = .bool false ∧ vt = .bool false) ∨ (i = .int .i64 2 ∧ va = .bool true ∧ vb = .bool true ∧ vc = .bool false ∧ vn = .bool false ∧ vt = .bool false) ∨ (i = .int .i64 3 ∧ va = .bool true ∧ vb = .bool true ∧ vc = .bool false ∧ vn = .bool false ∧ vt = .bool true)) (fun _ _ _ _ _ i => 4 - (intOf i).toNat)
  case atStart => simp
  case round =>
    rcases hrel with ⟨rfl, rfl, rfl, rfl, rfl, rfl⟩ | ⟨rfl, rfl, rfl, rfl, rfl, rfl⟩ | ⟨rfl, rfl, rfl, rfl, rfl, rfl⟩ | ⟨rfl, rfl, rfl, rfl, rfl, rfl⟩
    · have hq : (bs [65, 66, 84])[0].toNat = 65 := rfl
      go_wp2_with fail
      go_round
      case rel => simp
      case measure => simp [intOf]
    · have hq : (bs [65, 66, 84])[1].toNat = 66 := rfl
      go_wp2_with fail
      go_round
      case rel => simp
      case measure => simp [intOf]
    · have hq : (bs [65, 66, 84])[2].toNat = 84 := rfl
      go_wp2_with fail
      go_round
      case rel => simp
      case measure => simp [intOf]
    · have y0 := X3.out.cell 0 _ rfl
      have y1 := X3.out.cell 1 _ rfl
      have y2 := X3.out.cell 2 _ rfl
      have y3 := X3.out.cell 3 _ rfl
      have y4 := X3.out.cell 4 _ rfl
      by_cases h7 : x.op = 7
      · have s1 : (x.op != 7) = false := by simp [h7]
        have s2 : decide (x.a ≤ 13) = true := by have := M7.out; simpa [h7] using this
        clear h7
        go_wp2_with fail
        go_ret
        exact ⟨rfl, B3.out⟩
      · have s1 : (x.op != 7) = true := by simp [h7]
        clear h7
        go_wp2_with fail
        go_ret
        exact ⟨rfl, B3.out⟩
set_option maxRecDepth 100000 in
set_option maxHeartbeats 3200000 in
theorem may_E (x : Ins) (k : Nat) (w : World) (hk : k < 22) (ho : x.op = (k : Int) + 1) (hH : (splitB (wordsT.getD k [])).2 = []) (hm : mayF [] x = true) :
    Calls Try.prog 46 #[.agg #[.int .i64 x.op, .int .i64 x.a, .int .i64 x.b, .int .i64 x.c, .int .i64 x.n]] w fun e w' => e = .returned (.bool true) ∧ Below w.heap.size w w' := by
  simp only [mayF, Bool.and_eq_true, decide_eq_true_eq] at hm
  obtain ⟨⟨⟨⟨⟨⟨⟨a1, a2, b1, b2, c1, c2⟩, ma⟩, mb⟩, mc⟩, mn⟩, mt⟩, m7⟩ := hm
  have g0 : decide (x.op < 1) = false := decide_eq_false (by omega)
  have g1 : decide (22 < x.op) = false := decide_eq_false (by omega)
  have g2 : decide (x.a < 0) = false := decide_eq_false (by omega)
  have g3 : decide (15 < x.a) = false := decide_eq_false (by omega)
  have g4 : decide (x.b < 0) = false := decide_eq_false (by omega)
  have g5 : decide (15 < x.b) = false := decide_eq_false (by omega)
  have g6 : decide (x.c < 0) = false := decide_eq_false (by omega)
  have g7 : decide (15 < x.c) = false := decide_eq_false (by omega)
  have ma : (x.a == 0) = true := ma
  have mb : (x.b == 0) = true := mb
  have mc : (x.c == 0) = true := mc
  have mn : (x.n == 0) = true := mn
  have mt : smallB x.n = true := mt
  have hsm := fun w => small_calls x.n w mt
  clear mt
  have X1 := Lib.hid (Bx.new w [.int .i64 x.op, .int .i64 x.a, .int .i64 x.b, .int .i64 x.c, .int .i64 x.n] 95)
  have M7 := Lib.hid m7
  have HH := Lib.hid hH
  have HO := Lib.hid ho
  clear m7 hH ho
  go_enter Try.func46, Try.ntmps46
  go_wp2_with fail
  obtain ⟨y, hy⟩ : ∃ y, y = w.alloc (.cells #[.int .i64 x.op, .int .i64 x.a, .int .i64 x.b, .int .i64 x.c, .int .i64 x.n] 95) := ⟨_, rfl⟩
  have BY := Lib.hid (below_alloc (Below.refl w.heap.size w) (.cells #[.int .i64 x.op, .int .i64 x.a, .int .i64 x.b, .int .i64 x.c, .int .i64 x.n] 95))
  rw [← hy] at X1 BY ⊢
  clear hy
  have o1 : (0 : Int) ≤ (k : Int) := by omega
  have o2 : (k : Int) < 22 := by omega
  refine Mux.regionS [(true, 1), (true, 2), (true, 3), (false, 0), (false, 4), (false, 5), (false, 6), (false, 7), (true, 8), (true, 9), (true, 10), (true, 11)] [0, 7] (fun w' => Bx w.heap.size 95 [.int .i64 x.op, .int .i64 x.a, .int .i64 x.b, .int .i64 x.c, .int .i64 x.n] w') (by kernel_rfl) (by kernel_rfl) X1.out.drew ?_
  iterate 2 (apply Mux.quietS; (· rfl); (· intro w' hR V hV; have q0 := hR.cell 0 _ rfl; rw [HO.out] at q0; go_simp; exact hV); intro K hK; go_simp; refine hK _ ?_; clear hK K)
  (apply Mux.quietS; (· rfl); (· intro w' hR V hV; go_simp; exact hV); intro K hK; go_simp; refine hK _ ?_; clear hK K)
  refine Mux.mover_chkS rfl (by decide) ?_
  go_wp2_with fail
  refine (Words_calls _).mono ?_
  rintro e w2 ⟨A, rfl, hC, hb2⟩
  have X2 := Lib.hid (X1.out.drew.below hb2)
  have B2 := Lib.hid (below_step (below_drew1 BY.out) hb2)
  obtain ⟨ad, tt, rfl, ht, hcell⟩ := at_str' hC k (by show k < 22; omega)
  have hsp := words_split ht
  rw [HH.out] at hsp
  clear hC hb2 ht X1 BY
  go_wp2_with fail
  refine ⟨X2.out, ?_⟩
  refine Mux.moverS rfl (by decide) ?_
  go_wp2_with fail
  refine Mux.moverS rfl (by decide) ?_
  go_wp2_with fail
  refine Mux.moverS rfl (by decide) ?_
  go_wp2_with fail
  refine (hsp _).mono ?_
  rintro e w3 ⟨rfl, hb3⟩
  have X3 := Lib.hid (X2.out.below hb3)
  have B3 := Lib.hid (below_step B2.out hb3)
  clear hb3 hcell X2 B2 hsp
  go_wp2_with fail
  refine Mux.mover_chkS rfl (by decide) ?_
  go_wp2_with fail
  refine ⟨X3.out, ?_⟩
  iterate 4 (apply Mux.quietS; (· rfl); (· intro w' hR V hV; go_simp; exact hV); intro K hK; go_simp; refine hK _ ?_; clear hK K)
  refine Mux.doneS ?_
  go_wp2_with fail
  generalize bs (splitB (wordsT[k]?.getD [])).fst = W1
  have sz : (bs []).size = 0 := rfl
  go_loop [5, 6, 7, 8, 9, 10] (fun va vb vc vn vt i => (i = .int .i64 0 ∧ va = .bool false ∧ vb = .bool false ∧ vc = .bool false ∧ vn = .bool false ∧ vt = .bool false)) (fun _ _ _ _ _ i => 1 - (intOf i).toNat)
  case atStart => simp
  case round =>
    rcases hrel with ⟨rfl, rfl, rfl, rfl, rfl, rfl⟩
    · have y0 := X3.out.cell 0 _ rfl
      have y1 := X3.out.cell 1 _ rfl
      have y2 := X3.out.cell 2 _ rfl
      have y3 := X3.out.cell 3 _ rfl
      have y4 := X3.out.cell 4 _ rfl
      by_cases h7 : x.op = 7
      · have s1 : (x.op != 7) = false := by simp [h7]
        have s2 : decide (x.a ≤ 13) = true := by have := M7.out; simpa [h7] using this
        clear h7
        go_wp2_with (go_at_call 54; refine (hsm _).mono ?_; rintro e w5 ⟨rfl, rfl⟩)
        go_ret
        exact ⟨rfl, B3.out⟩
      · have s1 : (x.op != 7) = true := by simp [h7]
        clear h7
        go_wp2_with (go_at_call 54; refine (hsm _).mono ?_; rintro e w5 ⟨rfl, rfl⟩)
        go_ret
        exact ⟨rfl, B3.out⟩
set_option maxRecDepth 100000 in
set_option maxHeartbeats 3200000 in
theorem may_A (x : Ins) (k : Nat) (w : World) (hk : k < 22) (ho : x.op = (k : Int) + 1) (hH : (splitB (wordsT.getD k [])).2 = [65]) (hm : mayF [65] x = true) :
    Calls Try.prog 46 #[.agg #[.int .i64 x.op, .int .i64 x.a, .int .i64 x.b, .int .i64 x.c, .int .i64 x.n]] w fun e w' => e = .returned (.bool true) ∧ Below w.heap.size w w' := by
  simp only [mayF, Bool.and_eq_true, decide_eq_true_eq] at hm
  obtain ⟨⟨⟨⟨⟨⟨⟨a1, a2, b1, b2, c1, c2⟩, ma⟩, mb⟩, mc⟩, mn⟩, mt⟩, m7⟩ := hm
  have g0 : decide (x.op < 1) = false := decide_eq_false (by omega)
  have g1 : decide (22 < x.op) = false := decide_eq_false (by omega)
  have g2 : decide (x.a < 0) = false := decide_eq_false (by omega)
  have g3 : decide (15 < x.a) = false := decide_eq_false (by omega)
  have g4 : decide (x.b < 0) = false := decide_eq_false (by omega)
  have g5 : decide (15 < x.b) = false := decide_eq_false (by omega)
  have g6 : decide (x.c < 0) = false := decide_eq_false (by omega)
  have g7 : decide (15 < x.c) = false := decide_eq_false (by omega)
  have mb : (x.b == 0) = true := mb
  have mc : (x.c == 0) = true := mc
  have mn : (x.n == 0) = true := mn
  have mt : smallB x.n = true := mt
  clear ma
  have hsm := fun w => small_calls x.n w mt
  clear mt
  have X1 := Lib.hid (Bx.new w [.int .i64 x.op, .int .i64 x.a, .int .i64 x.b, .int .i64 x.c, .int .i64 x.n] 95)
  have M7 := Lib.hid m7
  have HH := Lib.hid hH
  have HO := Lib.hid ho
  clear m7 hH ho
  go_enter Try.func46, Try.ntmps46
  go_wp2_with fail
  obtain ⟨y, hy⟩ : ∃ y, y = w.alloc (.cells #[.int .i64 x.op, .int .i64 x.a, .int .i64 x.b, .int .i64 x.c, .int .i64 x.n] 95) := ⟨_, rfl⟩
  have BY := Lib.hid (below_alloc (Below.refl w.heap.size w) (.cells #[.int .i64 x.op, .int .i64 x.a, .int .i64 x.b, .int .i64 x.c, .int .i64 x.n] 95))
  rw [← hy] at X1 BY ⊢
  clear hy
  have o1 : (0 : Int) ≤ (k : Int) := by omega
  have o2 : (k : Int) < 22 := by omega
  refine Mux.regionS [(true, 1), (true, 2), (true, 3), (false, 0), (false, 4), (false, 5), (false, 6), (false, 7), (true, 8), (true, 9), (true, 10), (true, 11)] [0, 7] (fun w' => Bx w.heap.size 95 [.int .i64 x.op, .int .i64 x.a, .int .i64 x.b, .int .i64 x.c, .int .i64 x.n] w') (by kernel_rfl) (by kernel_rfl) X1.out.drew ?_
  iterate 2 (apply Mux.quietS; (· rfl); (· intro w' hR V hV; have q0 := hR.cell 0 _ rfl; rw [HO.out] at q0; go_simp; exact hV); intro K hK; go_simp; refine hK _ ?_; clear hK K)
  (apply Mux.quietS; (· rfl); (· intro w' hR V hV; go_simp; exact hV); intro K hK; go_simp; refine hK _ ?_; clear hK K)
  refine Mux.mover_chkS rfl (by decide) ?_
  go_wp2_with fail
  refine (Words_calls _).mono ?_
  rintro e w2 ⟨A, rfl, hC, hb2⟩
  have X2 := Lib.hid (X1.out.drew.below hb2)
  have B2 := Lib.hid (below_step (below_drew1 BY.out) hb2)
  obtain ⟨ad, tt, rfl, ht, hcell⟩ := at_str' hC k (by show k < 22; omega)
  have hsp := words_split ht
  rw [HH.out] at hsp
  clear hC hb2 ht X1 BY
  go_wp2_with fail
  refine ⟨X2.out, ?_⟩
  refine Mux.moverS rfl (by decide) ?_
  go_wp2_with fail
  refine Mux.moverS rfl (by decide) ?_
  go_wp2_with fail
  refine Mux.moverS rfl (by decide) ?_
  go_wp2_with fail
  refine (hsp _).mono ?_
  rintro e w3 ⟨rfl, hb3⟩
  have X3 := Lib.hid (X2.out.below hb3)
  have B3 := Lib.hid (below_step B2.out hb3)
  clear hb3 hcell X2 B2 hsp
  go_wp2_with fail
  refine Mux.mover_chkS rfl (by decide) ?_
  go_wp2_with fail
  refine ⟨X3.out, ?_⟩
  iterate 4 (apply Mux.quietS; (· rfl); (· intro w' hR V hV; go_simp; exact hV); intro K hK; go_simp; refine hK _ ?_; clear hK K)
  refine Mux.doneS ?_
  go_wp2_with fail
  generalize bs (splitB (wordsT[k]?.getD [])).fst = W1
  have sz : (bs [65]).size = 1 := rfl
  go_loop [5, 6, 7, 8, 9, 10] (fun va vb vc vn vt i => (i = .int .i64 0 ∧ va = .bool false ∧ vb = .bool false ∧ vc = .bool false ∧ vn = .bool false ∧ vt = .bool false) ∨ (i = .int .i64 1 ∧ va = .bool true ∧ vb = .bool false ∧ vc = .bool false ∧ vn = .bool false ∧ vt = .bool false)) (fun _ _ _ _ _ i => 2 - (intOf i).toNat)
  case atStart => simp
  case round =>
    rcases hrel with ⟨rfl, rfl, rfl, rfl, rfl, rfl⟩ | ⟨rfl, rfl, rfl, rfl, rfl, rfl⟩
    · have hq : (bs [65])[0].toNat = 65 := rfl
      go_wp2_with fail
      go_round
      case rel => simp
      case measure => simp [intOf]
    · have y0 := X3.out.cell 0 _ rfl
      have y1 := X3.out.cell 1 _ rfl
      have y2 := X3.out.cell 2 _ rfl
      have y3 := X3.out.cell 3 _ rfl
      have y4 := X3.out.cell 4 _ rfl
      by_cases h7 : x.op = 7
      · have s1 : (x.op != 7) = false := by simp [h7]
        have s2 : decide (x.a ≤ 13) = true := by have := M7.out; simpa [h7] using this
        clear h7
        go_wp2_with (go_at_call 54; refine (hsm _).mono ?_; rintro e w5 ⟨rfl, rfl⟩)
        go_ret
        exact ⟨rfl, B3.out⟩
      · have s1 : (x.op != 7) = true := by simp [h7]
        clear h7
        go_wp2_with (go_at_call 54; refine (hsm _).mono ?_; rintro e w5 ⟨rfl, rfl⟩)
        go_ret
        exact ⟨rfl, B3.out⟩
set_option maxRecDepth 100000 in
set_option maxHeartbeats 3200000 in
theorem may_NA (x : Ins) (k : Nat) (w : World) (hk : k < 22) (ho : x.op = (k : Int) + 1) (hH : (splitB (wordsT.getD k [])).2 = [78, 65]) (hm : mayF [78, 65] x = true) :
    Calls Try.prog 46 #[.agg #[.int .i64 x.op, .int .i64 x.a, .int .i64 x.b, .int .i64 x.c, .int .i64 x.n]] w fun e w' => e = .returned (.bool true) ∧ Below w.heap.size w w' := by
  simp only [mayF, Bool.and_eq_true, decide_eq_true_eq] at hm
  obtain ⟨⟨⟨⟨⟨⟨⟨a1, a2, b1, b2, c1, c2⟩, ma⟩, mb⟩, mc⟩, mn⟩, mt⟩, m7⟩ := hm
  have g0 : decide (x.op < 1) = false := decide_eq_false (by omega)
  have g1 : decide (22 < x.op) = false := decide_eq_false (by omega)
  have g2 : decide (x.a < 0) = false := decide_eq_false (by omega)
  have g3 : decide (15 < x.a) = false := decide_eq_false (by omega)
  have g4 : decide (x.b < 0) = false := decide_eq_false (by omega)
  have g5 : decide (15 < x.b) = false := decide_eq_false (by omega)
  have g6 : decide (x.c < 0) = false := decide_eq_false (by omega)
  have g7 : decide (15 < x.c) = false := decide_eq_false (by omega)
  have mb : (x.b == 0) = true := mb
  have mc : (x.c == 0) = true := mc
  have mt : smallB x.n = true := mt
  clear ma mn
  have hsm := fun w => small_calls x.n w mt
  clear mt
  have X1 := Lib.hid (Bx.new w [.int .i64 x.op, .int .i64 x.a, .int .i64 x.b, .int .i64 x.c, .int .i64 x.n] 95)
  have M7 := Lib.hid m7
  have HH := Lib.hid hH
  have HO := Lib.hid ho
  clear m7 hH ho
  go_enter Try.func46, Try.ntmps46
  go_wp2_with fail
  obtain ⟨y, hy⟩ : ∃ y, y = w.alloc (.cells #[.int .i64 x.op, .int .i64 x.a, .int .i64 x.b, .int .i64 x.c, .int .i64 x.n] 95) := ⟨_, rfl⟩
  have BY := Lib.hid (below_alloc (Below.refl w.heap.size w) (.cells #[.int .i64 x.op, .int .i64 x.a, .int .i64 x.b, .int .i64 x.c, .int .i64 x.n] 95))
  rw [← hy] at X1 BY ⊢
  clear hy
  have o1 : (0 : Int) ≤ (k : Int) := by omega
  have o2 : (k : Int) < 22 := by omega
  refine Mux.regionS [(true, 1), (true, 2), (true, 3), (false, 0), (false, 4), (false, 5), (false, 6), (false, 7), (true, 8), (true, 9), (true, 10), (true, 11)] [0, 7] (fun w' => Bx w.heap.size 95 [.int .i64 x.op, .int .i64 x.a, .int .i64 x.b, .int .i64 x.c, .int .i64 x.n] w') (by kernel_rfl) (by kernel_rfl) X1.out.drew ?_
  iterate 2 (apply Mux.quietS; (· rfl); (· intro w' hR V hV; have q0 := hR.cell 0 _ rfl; rw [HO.out] at q0; go_simp; exact hV); intro K hK; go_simp; refine hK _ ?_; clear hK K)
  (apply Mux.quietS; (· rfl); (· intro w' hR V hV; go_simp; exact hV); intro K hK; go_simp; refine hK _ ?_; clear hK K)
  refine Mux.mover_chkS rfl (by decide) ?_
  go_wp2_with fail
  refine (Words_calls _).mono ?_
  rintro e w2 ⟨A, rfl, hC, hb2⟩
  have X2 := Lib.hid (X1.out.drew.below hb2)
  have B2 := Lib.hid (below_step (below_drew1 BY.out) hb2)
  obtain ⟨ad, tt, rfl, ht, hcell⟩ := at_str' hC k (by show k < 22; omega)
  have hsp := words_split ht
  rw [HH.out] at hsp
  clear hC hb2 ht X1 BY
  go_wp2_with fail
  refine ⟨X2.out, ?_⟩
  refine Mux.moverS rfl (by decide) ?_
  go_wp2_with fail
  refine Mux.moverS rfl (by decide) ?_
  go_wp2_with fail
  refine Mux.moverS rfl (by decide) ?_
  go_wp2_with fail
  refine (hsp _).mono ?_
  rintro e w3 ⟨rfl, hb3⟩
  have X3 := Lib.hid (X2.out.below hb3)
  have B3 := Lib.hid (below_step B2.out hb3)
  clear hb3 hcell X2 B2 hsp
  go_wp2_with fail
  refine Mux.mover_chkS rfl (by decide) ?_
  go_wp2_with fail
  refine ⟨X3.out, ?_⟩
  iterate 4 (apply Mux.quietS; (· rfl); (· intro w' hR V hV; go_simp; exact hV); intro K hK; go_simp; refine hK _ ?_; clear hK K)
  refine Mux.doneS ?_
  go_wp2_with fail
  generalize bs (splitB (wordsT[k]?.getD [])).fst = W1
  have sz : (bs [78, 65]).size = 2 := rfl
  go_loop [5, 6, 7, 8, 9, 10] (fun va vb vc vn vt i => (i = .int .i64 0 ∧ va = .bool false ∧ vb = .bool false ∧ vc = .bool false ∧ vn = .bool false ∧ vt = .bool false) ∨ (i = .int .i64 1 ∧ va = .bool false ∧ vb = .bool false ∧ vc = .bool false ∧ vn = .bool true ∧ vt = .bool false) ∨ (i = .int .i64 2 ∧ va = .bool true ∧ vb = .bool false ∧ vc = .bool false ∧ vn = .bool true ∧ vt = .bool false)) (fun _ _ _ _ _ i => 3 - (intOf i).toNat)
  case atStart => simp
  case round =>
    rcases hrel with ⟨rfl, rfl, rfl, rfl, rfl, rfl⟩ | ⟨rfl, rfl, rfl, rfl, rfl, rfl⟩ | ⟨rfl, rfl, rfl, rfl, rfl, rfl⟩
    · have hq : (bs [78, 65])[0].toNat = 78 := rfl
      go_wp2_with fail
      go_round
      case rel => simp
      case measure => simp [intOf]
    · have hq : (bs [78, 65])[1].toNat = 65 := rfl
      go_wp2_with fail
      go_round
      case rel => simp
      case measure => simp [intOf]
    · have y0 := X3.out.cell 0 _ rfl
      have y1 := X3.out.cell 1 _ rfl
      have y2 := X3.out.cell 2 _ rfl
      have y3 := X3.out.cell 3 _ rfl
      have y4 := X3.out.cell 4 _ rfl
      by_cases h7 : x.op = 7
      · have s1 : (x.op != 7) = false := by simp [h7]
        have s2 : decide (x.a ≤ 13) = true := by have := M7.out; simpa [h7] using this
        clear h7
        go_wp2_with (go_at_call 54; refine (hsm _).mono ?_; rintro e w5 ⟨rfl, rfl⟩)
        go_ret
        exact ⟨rfl, B3.out⟩
      · have s1 : (x.op != 7) = true := by simp [h7]
        clear h7
        go_wp2_with (go_at_call 54; refine (hsm _).mono ?_; rintro e w5 ⟨rfl, rfl⟩)
        go_ret
        exact ⟨rfl, B3.out⟩
end Go.Proofs.Ytegjkheecbmioaa
