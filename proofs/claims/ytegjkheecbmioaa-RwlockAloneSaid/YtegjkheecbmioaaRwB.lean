/- The model's rows for a RW, for the marks that its calls come to. -/
import Derived.Test.YtegjkheecbmioaaRwE
import Derived.Test.YtegjkheecbmioaaMuf
import Derived.Test.YtegjkheecbmioaaFst
namespace Go.Proofs.Ytegjkheecbmioaa
open Go.RowKit
set_option linter.unusedVariables false
set_option linter.unusedSimpArgs false

set_option maxRecDepth 100000 in
set_option maxHeartbeats 25600000 in
theorem rw_1a (x : Th) (t : Nat) (w : World) (ht : t < 8) (hb : ∀ r ∈ x.rl, 0 ≤ r ∧ r ≤ 1000) (hh0 : 0 ≤ x.holds) (hh1 : x.holds ≤ 1000) (ho : x.owner = -1) (hs : sum8 x = 0) :
    Calls Try.prog 65 #[x.v, .int .i64 t, .int .i64 1, .int .i64 1] w fun e w' => e = .returned (.tuple #[({ x with owner := (t : Int), holds := x.holds + 1 } : Th).v, .bool true]) ∧ Below w.heap.size w w' := by
  have HR := Lib.hid (fun w => Reads_calls x w hb)
  have HX := Lib.hid (Bx.new w x.enc 52)
  have em : (x.owner == (t : Int)) = false := beq_eq_false_iff_ne.2 (by omega)
  have e1 : (x.owner == (-1)) = true := beq_iff_eq.2 ho
  have e2 : (x.owner != (-1)) = false := by simp [ho]
  generalize sum8 x = S at HR hs
  have s0 : (S == 0) = true := beq_iff_eq.2 hs
  have a1 : IntKind.i64.wrap (x.holds + 1) = x.holds + 1 := by rw [IntKind.wrap_i64]; omega
  clear hs ho
  generalize hyv : ({ x with owner := (t : Int), holds := x.holds + 1 } : Th).v = yv
  have HYV := Lib.hid hyv
  clear hyv hb
  unfold Th.v at HR ⊢
  go_enter Try.func65, Try.ntmps65
  go_wp2_with fail
  refine (HR.out _).mono ?_
  rintro e w1 ⟨rfl, hb1⟩
  have HBX := Lib.hid ((HX.out.alloc (.cells #[.int .i64 0, .int .i64 0, .int .i64 0, .int .i64 0, .int .i64 0, .int .i64 0, .int .i64 0, .int .i64 0, .int .i64 0, .int .i64 0, .int .i64 0, .int .i64 0, .slice none 0 0, .int .i64 0, .int .i64 0] 52)).below hb1)
  have BR := (Bx.new (w.alloc (.cells x.enc.toArray 52)) [.int .i64 0, .int .i64 0, .int .i64 0, .int .i64 0, .int .i64 0, .int .i64 0, .int .i64 0, .int .i64 0, .int .i64 0, .int .i64 0, .int .i64 0, .int .i64 0, .slice none 0 0, .int .i64 0, .int .i64 0] 52).below hb1
  rw [alloc_size] at BR
  have HBR := Lib.hid BR
  have HB := Lib.hid (below_step (below_alloc (below_alloc (Below.refl w.heap.size w) (.cells x.enc.toArray 52)) (.cells #[.int .i64 0, .int .i64 0, .int .i64 0, .int .i64 0, .int .i64 0, .int .i64 0, .int .i64 0, .int .i64 0, .int .i64 0, .int .i64 0, .int .i64 0, .int .i64 0, .slice none 0 0, .int .i64 0, .int .i64 0] 52)) hb1)
  have c2 := HBX.out.cell 2 _ rfl
  have c3 := HBX.out.cell 3 _ rfl
  have fx := fun i => HBX.out.ty.frozen i
  have hne : w.heap.size + 1 ≠ w.heap.size := by omega
  clear hb1 BR HR HX
  go_upto_region 8 with fail
  have BY : Bx w.heap.size 52 ({ x with owner := (t : Int), holds := x.holds + 1 } : Th).enc ((w1.setCell ⟨w.heap.size, 2, none⟩ (.int .i64 (t : Int))).setCell ⟨w.heap.size, 3, none⟩ (.int .i64 (x.holds + 1))) := ((HBX.out.set 2 (.int .i64 (t : Int))).set 3 (.int .i64 (x.holds + 1)))
  have BZ : Bx (w.heap.size + 1) 52 [.int .i64 0, .int .i64 0, .int .i64 0, .int .i64 0, .int .i64 0, .int .i64 0, .int .i64 0, .int .i64 0, .int .i64 0, .int .i64 0, .int .i64 0, .int .i64 0, .slice none 0 0, .int .i64 0, .int .i64 0] ((w1.setCell ⟨w.heap.size, 2, none⟩ (.int .i64 (t : Int))).setCell ⟨w.heap.size, 3, none⟩ (.int .i64 (x.holds + 1))) := ((HBR.out.other hne).other hne)
  have HBW := Lib.hid (show Below w.heap.size w ((w1.setCell ⟨w.heap.size, 2, none⟩ (.int .i64 (t : Int))).setCell ⟨w.heap.size, 3, none⟩ (.int .i64 (x.holds + 1))) from (below_set (below_set HB.out (Nat.le_refl _)) (Nat.le_refl _)))
  have HBZ := Lib.hid BZ
  have HRG := Lib.hid BY.range
  have HTH := Lib.hid (show ((w1.setCell ⟨w.heap.size, 2, none⟩ (.int .i64 (t : Int))).setCell ⟨w.heap.size, 3, none⟩ (.int .i64 (x.holds + 1))).there (w.heap.size + 1) 0 ({ x with owner := (t : Int), holds := x.holds + 1 } : Th).enc.toArray.size from BZ.there)
  have HON := Lib.hid (all_oneCell_toArray (th_ones ({ x with owner := (t : Int), holds := x.holds + 1 } : Th)))
  clear BY BZ c2 c3 fx
  go_wp2_with (first | (go_loud (refine wpList_load_mid rfl 52 _ rfl w.heap.size 0 rfl _ _ HRG.out Try.underlying52 rfl (by exact th_info) ?_; clear HRG)) | (go_loud (refine wpList_store_mid rfl 52 _ _ rfl (w.heap.size + 1) 0 ({ x with owner := (t : Int), holds := x.holds + 1 } : Th).enc.toArray rfl rfl (by exact HTH.out) (by exact th_info) (by exact HON.out) ?_; clear HTH)) | fail)
  refine bodyPost_ret (results_th (y := { x with owner := (t : Int), holds := x.holds + 1 }) rfl _ rfl (HBZ.out.sets2 rfl)) rfl ⟨by rw [← HYV.out]; rfl, below_sets (by omega) _ _ _ HBW.out⟩
set_option maxRecDepth 100000 in
set_option maxHeartbeats 25600000 in
theorem rw_1b (x : Th) (t : Nat) (w : World) (ht : t < 8) (hb : ∀ r ∈ x.rl, 0 ≤ r ∧ r ≤ 1000) (hh0 : 0 ≤ x.holds) (hh1 : x.holds ≤ 1000) (ho : x.owner = (t : Int)) (hx : x.holds < 1000) :
    Calls Try.prog 65 #[x.v, .int .i64 t, .int .i64 1, .int .i64 1] w fun e w' => e = .returned (.tuple #[({ x with owner := (t : Int), holds := x.holds + 1 } : Th).v, .bool true]) ∧ Below w.heap.size w w' := by
  have HR := Lib.hid (fun w => Reads_calls x w hb)
  have HX := Lib.hid (Bx.new w x.enc 52)
  have em : (x.owner == (t : Int)) = true := beq_iff_eq.2 ho
  have e1 : (x.owner == (-1)) = false := beq_eq_false_iff_ne.2 (by omega)
  generalize sum8 x = S at HR
  have d1 : decide (x.holds < 1000) = true := decide_eq_true hx
  have a1 : IntKind.i64.wrap (x.holds + 1) = x.holds + 1 := by rw [IntKind.wrap_i64]; omega
  clear hx ho
  generalize hyv : ({ x with owner := (t : Int), holds := x.holds + 1 } : Th).v = yv
  have HYV := Lib.hid hyv
  clear hyv hb
  unfold Th.v at HR ⊢
  go_enter Try.func65, Try.ntmps65
  go_wp2_with fail
  refine (HR.out _).mono ?_
  rintro e w1 ⟨rfl, hb1⟩
  have HBX := Lib.hid ((HX.out.alloc (.cells #[.int .i64 0, .int .i64 0, .int .i64 0, .int .i64 0, .int .i64 0, .int .i64 0, .int .i64 0, .int .i64 0, .int .i64 0, .int .i64 0, .int .i64 0, .int .i64 0, .slice none 0 0, .int .i64 0, .int .i64 0] 52)).below hb1)
  have BR := (Bx.new (w.alloc (.cells x.enc.toArray 52)) [.int .i64 0, .int .i64 0, .int .i64 0, .int .i64 0, .int .i64 0, .int .i64 0, .int .i64 0, .int .i64 0, .int .i64 0, .int .i64 0, .int .i64 0, .int .i64 0, .slice none 0 0, .int .i64 0, .int .i64 0] 52).below hb1
  rw [alloc_size] at BR
  have HBR := Lib.hid BR
  have HB := Lib.hid (below_step (below_alloc (below_alloc (Below.refl w.heap.size w) (.cells x.enc.toArray 52)) (.cells #[.int .i64 0, .int .i64 0, .int .i64 0, .int .i64 0, .int .i64 0, .int .i64 0, .int .i64 0, .int .i64 0, .int .i64 0, .int .i64 0, .int .i64 0, .int .i64 0, .slice none 0 0, .int .i64 0, .int .i64 0] 52)) hb1)
  have c2 := HBX.out.cell 2 _ rfl
  have c3 := HBX.out.cell 3 _ rfl
  have fx := fun i => HBX.out.ty.frozen i
  have hne : w.heap.size + 1 ≠ w.heap.size := by omega
  clear hb1 BR HR HX
  go_upto_region 8 with fail
  have BY : Bx w.heap.size 52 ({ x with owner := (t : Int), holds := x.holds + 1 } : Th).enc ((w1.setCell ⟨w.heap.size, 2, none⟩ (.int .i64 (t : Int))).setCell ⟨w.heap.size, 3, none⟩ (.int .i64 (x.holds + 1))) := ((HBX.out.set 2 (.int .i64 (t : Int))).set 3 (.int .i64 (x.holds + 1)))
  have BZ : Bx (w.heap.size + 1) 52 [.int .i64 0, .int .i64 0, .int .i64 0, .int .i64 0, .int .i64 0, .int .i64 0, .int .i64 0, .int .i64 0, .int .i64 0, .int .i64 0, .int .i64 0, .int .i64 0, .slice none 0 0, .int .i64 0, .int .i64 0] ((w1.setCell ⟨w.heap.size, 2, none⟩ (.int .i64 (t : Int))).setCell ⟨w.heap.size, 3, none⟩ (.int .i64 (x.holds + 1))) := ((HBR.out.other hne).other hne)
  have HBW := Lib.hid (show Below w.heap.size w ((w1.setCell ⟨w.heap.size, 2, none⟩ (.int .i64 (t : Int))).setCell ⟨w.heap.size, 3, none⟩ (.int .i64 (x.holds + 1))) from (below_set (below_set HB.out (Nat.le_refl _)) (Nat.le_refl _)))
  have HBZ := Lib.hid BZ
  have HRG := Lib.hid BY.range
  have HTH := Lib.hid (show ((w1.setCell ⟨w.heap.size, 2, none⟩ (.int .i64 (t : Int))).setCell ⟨w.heap.size, 3, none⟩ (.int .i64 (x.holds + 1))).there (w.heap.size + 1) 0 ({ x with owner := (t : Int), holds := x.holds + 1 } : Th).enc.toArray.size from BZ.there)
  have HON := Lib.hid (all_oneCell_toArray (th_ones ({ x with owner := (t : Int), holds := x.holds + 1 } : Th)))
  clear BY BZ c2 c3 fx
  go_wp2_with (first | (go_loud (refine wpList_load_mid rfl 52 _ rfl w.heap.size 0 rfl _ _ HRG.out Try.underlying52 rfl (by exact th_info) ?_; clear HRG)) | (go_loud (refine wpList_store_mid rfl 52 _ _ rfl (w.heap.size + 1) 0 ({ x with owner := (t : Int), holds := x.holds + 1 } : Th).enc.toArray rfl rfl (by exact HTH.out) (by exact th_info) (by exact HON.out) ?_; clear HTH)) | fail)
  refine bodyPost_ret (results_th (y := { x with owner := (t : Int), holds := x.holds + 1 }) rfl _ rfl (HBZ.out.sets2 rfl)) rfl ⟨by rw [← HYV.out]; rfl, below_sets (by omega) _ _ _ HBW.out⟩
set_option maxRecDepth 100000 in
set_option maxHeartbeats 25600000 in
theorem rw_1n1 (x : Th) (t : Nat) (w : World) (ht : t < 8) (hb : ∀ r ∈ x.rl, 0 ≤ r ∧ r ≤ 1000) (hh0 : 0 ≤ x.holds) (hh1 : x.holds ≤ 1000) (ho : x.owner = -1) (hs : sum8 x ≠ 0) :
    Calls Try.prog 65 #[x.v, .int .i64 t, .int .i64 1, .int .i64 1] w fun e w' => e = .returned (.tuple #[(x : Th).v, .bool false]) ∧ Below w.heap.size w w' := by
  have HR := Lib.hid (fun w => Reads_calls x w hb)
  have HX := Lib.hid (Bx.new w x.enc 52)
  have em : (x.owner == (t : Int)) = false := beq_eq_false_iff_ne.2 (by omega)
  have e1 : (x.owner == (-1)) = true := beq_iff_eq.2 ho
  have e2 : (x.owner != (-1)) = false := by simp [ho]
  generalize sum8 x = S at HR hs
  have s0 : (S == 0) = false := beq_eq_false_iff_ne.2 hs
  clear hs ho
  clear hb
  unfold Th.v at HR ⊢
  go_enter Try.func65, Try.ntmps65
  go_wp2_with fail
  refine (HR.out _).mono ?_
  rintro e w1 ⟨rfl, hb1⟩
  have HBX := Lib.hid ((HX.out.alloc (.cells #[.int .i64 0, .int .i64 0, .int .i64 0, .int .i64 0, .int .i64 0, .int .i64 0, .int .i64 0, .int .i64 0, .int .i64 0, .int .i64 0, .int .i64 0, .int .i64 0, .slice none 0 0, .int .i64 0, .int .i64 0] 52)).below hb1)
  have BR := (Bx.new (w.alloc (.cells x.enc.toArray 52)) [.int .i64 0, .int .i64 0, .int .i64 0, .int .i64 0, .int .i64 0, .int .i64 0, .int .i64 0, .int .i64 0, .int .i64 0, .int .i64 0, .int .i64 0, .int .i64 0, .slice none 0 0, .int .i64 0, .int .i64 0] 52).below hb1
  rw [alloc_size] at BR
  have HBR := Lib.hid BR
  have HB := Lib.hid (below_step (below_alloc (below_alloc (Below.refl w.heap.size w) (.cells x.enc.toArray 52)) (.cells #[.int .i64 0, .int .i64 0, .int .i64 0, .int .i64 0, .int .i64 0, .int .i64 0, .int .i64 0, .int .i64 0, .int .i64 0, .int .i64 0, .int .i64 0, .int .i64 0, .slice none 0 0, .int .i64 0, .int .i64 0] 52)) hb1)
  have c2 := HBX.out.cell 2 _ rfl
  have c3 := HBX.out.cell 3 _ rfl
  have fx := fun i => HBX.out.ty.frozen i
  have hne : w.heap.size + 1 ≠ w.heap.size := by omega
  clear hb1 BR HR HX
  go_upto_region 26 with fail
  have BY : Bx w.heap.size 52 (x : Th).enc w1 := HBX.out
  have BZ : Bx (w.heap.size + 1) 52 [.int .i64 0, .int .i64 0, .int .i64 0, .int .i64 0, .int .i64 0, .int .i64 0, .int .i64 0, .int .i64 0, .int .i64 0, .int .i64 0, .int .i64 0, .int .i64 0, .slice none 0 0, .int .i64 0, .int .i64 0] w1 := HBR.out
  have HBW := Lib.hid (show Below w.heap.size w w1 from HB.out)
  have HBZ := Lib.hid BZ
  have HRG := Lib.hid BY.range
  have HTH := Lib.hid (show w1.there (w.heap.size + 1) 0 (x : Th).enc.toArray.size from BZ.there)
  have HON := Lib.hid (all_oneCell_toArray (th_ones (x : Th)))
  clear BY BZ
  go_wp2_with (first | (go_loud (refine wpList_load_mid rfl 52 _ rfl w.heap.size 0 rfl _ _ HRG.out Try.underlying52 rfl (by exact th_info) ?_; clear HRG)) | (go_loud (refine wpList_store_mid rfl 52 _ _ rfl (w.heap.size + 1) 0 (x : Th).enc.toArray rfl rfl (by exact HTH.out) (by exact th_info) (by exact HON.out) ?_; clear HTH)) | fail)
  refine bodyPost_ret (results_th (y := x) rfl _ rfl (HBZ.out.sets2 rfl)) rfl ⟨rfl, below_sets (by omega) _ _ _ HBW.out⟩
set_option maxRecDepth 100000 in
set_option maxHeartbeats 25600000 in
theorem rw_1n2 (x : Th) (t : Nat) (w : World) (ht : t < 8) (hb : ∀ r ∈ x.rl, 0 ≤ r ∧ r ≤ 1000) (hh0 : 0 ≤ x.holds) (hh1 : x.holds ≤ 1000) (ho1 : x.owner ≠ -1) (hot : x.owner ≠ (t : Int)) :
    Calls Try.prog 65 #[x.v, .int .i64 t, .int .i64 1, .int .i64 1] w fun e w' => e = .returned (.tuple #[(x : Th).v, .bool false]) ∧ Below w.heap.size w w' := by
  have HR := Lib.hid (fun w => Reads_calls x w hb)
  have HX := Lib.hid (Bx.new w x.enc 52)
  have em : (x.owner == (t : Int)) = false := beq_eq_false_iff_ne.2 hot
  have e1 : (x.owner == (-1)) = false := beq_eq_false_iff_ne.2 ho1
  have e2 : (x.owner != (-1)) = true := by simp [ho1]
  clear hot ho1
  generalize sum8 x = S at HR
  clear hb
  unfold Th.v at HR ⊢
  go_enter Try.func65, Try.ntmps65
  go_wp2_with fail
  refine (HR.out _).mono ?_
  rintro e w1 ⟨rfl, hb1⟩
  have HBX := Lib.hid ((HX.out.alloc (.cells #[.int .i64 0, .int .i64 0, .int .i64 0, .int .i64 0, .int .i64 0, .int .i64 0, .int .i64 0, .int .i64 0, .int .i64 0, .int .i64 0, .int .i64 0, .int .i64 0, .slice none 0 0, .int .i64 0, .int .i64 0] 52)).below hb1)
  have BR := (Bx.new (w.alloc (.cells x.enc.toArray 52)) [.int .i64 0, .int .i64 0, .int .i64 0, .int .i64 0, .int .i64 0, .int .i64 0, .int .i64 0, .int .i64 0, .int .i64 0, .int .i64 0, .int .i64 0, .int .i64 0, .slice none 0 0, .int .i64 0, .int .i64 0] 52).below hb1
  rw [alloc_size] at BR
  have HBR := Lib.hid BR
  have HB := Lib.hid (below_step (below_alloc (below_alloc (Below.refl w.heap.size w) (.cells x.enc.toArray 52)) (.cells #[.int .i64 0, .int .i64 0, .int .i64 0, .int .i64 0, .int .i64 0, .int .i64 0, .int .i64 0, .int .i64 0, .int .i64 0, .int .i64 0, .int .i64 0, .int .i64 0, .slice none 0 0, .int .i64 0, .int .i64 0] 52)) hb1)
  have c2 := HBX.out.cell 2 _ rfl
  have c3 := HBX.out.cell 3 _ rfl
  have fx := fun i => HBX.out.ty.frozen i
  have hne : w.heap.size + 1 ≠ w.heap.size := by omega
  clear hb1 BR HR HX
  go_upto_region 26 with fail
  have BY : Bx w.heap.size 52 (x : Th).enc w1 := HBX.out
  have BZ : Bx (w.heap.size + 1) 52 [.int .i64 0, .int .i64 0, .int .i64 0, .int .i64 0, .int .i64 0, .int .i64 0, .int .i64 0, .int .i64 0, .int .i64 0, .int .i64 0, .int .i64 0, .int .i64 0, .slice none 0 0, .int .i64 0, .int .i64 0] w1 := HBR.out
  have HBW := Lib.hid (show Below w.heap.size w w1 from HB.out)
  have HBZ := Lib.hid BZ
  have HRG := Lib.hid BY.range
  have HTH := Lib.hid (show w1.there (w.heap.size + 1) 0 (x : Th).enc.toArray.size from BZ.there)
  have HON := Lib.hid (all_oneCell_toArray (th_ones (x : Th)))
  clear BY BZ
  go_wp2_with (first | (go_loud (refine wpList_load_mid rfl 52 _ rfl w.heap.size 0 rfl _ _ HRG.out Try.underlying52 rfl (by exact th_info) ?_; clear HRG)) | (go_loud (refine wpList_store_mid rfl 52 _ _ rfl (w.heap.size + 1) 0 (x : Th).enc.toArray rfl rfl (by exact HTH.out) (by exact th_info) (by exact HON.out) ?_; clear HTH)) | fail)
  refine bodyPost_ret (results_th (y := x) rfl _ rfl (HBZ.out.sets2 rfl)) rfl ⟨rfl, below_sets (by omega) _ _ _ HBW.out⟩
set_option maxRecDepth 100000 in
set_option maxHeartbeats 25600000 in
theorem rw_2n (x : Th) (t : Nat) (w : World) (ht : t < 8) (hb : ∀ r ∈ x.rl, 0 ≤ r ∧ r ≤ 1000) (hh0 : 0 ≤ x.holds) (hh1 : x.holds ≤ 1000) (ho1 : x.owner ≠ -1) (hot : x.owner ≠ (t : Int)) :
    Calls Try.prog 65 #[x.v, .int .i64 t, .int .i64 2, .int .i64 0] w fun e w' => e = .returned (.tuple #[(x : Th).v, .bool false]) ∧ Below w.heap.size w w' := by
  have HR := Lib.hid (fun w => Reads_calls x w hb)
  have HX := Lib.hid (Bx.new w x.enc 52)
  have em : (x.owner == (t : Int)) = false := beq_eq_false_iff_ne.2 hot
  have e1 : (x.owner == (-1)) = false := beq_eq_false_iff_ne.2 ho1
  have e2 : (x.owner != (-1)) = true := by simp [ho1]
  clear hot ho1
  generalize sum8 x = S at HR
  clear hb
  unfold Th.v at HR ⊢
  go_enter Try.func65, Try.ntmps65
  go_wp2_with fail
  refine (HR.out _).mono ?_
  rintro e w1 ⟨rfl, hb1⟩
  have HBX := Lib.hid ((HX.out.alloc (.cells #[.int .i64 0, .int .i64 0, .int .i64 0, .int .i64 0, .int .i64 0, .int .i64 0, .int .i64 0, .int .i64 0, .int .i64 0, .int .i64 0, .int .i64 0, .int .i64 0, .slice none 0 0, .int .i64 0, .int .i64 0] 52)).below hb1)
  have BR := (Bx.new (w.alloc (.cells x.enc.toArray 52)) [.int .i64 0, .int .i64 0, .int .i64 0, .int .i64 0, .int .i64 0, .int .i64 0, .int .i64 0, .int .i64 0, .int .i64 0, .int .i64 0, .int .i64 0, .int .i64 0, .slice none 0 0, .int .i64 0, .int .i64 0] 52).below hb1
  rw [alloc_size] at BR
  have HBR := Lib.hid BR
  have HB := Lib.hid (below_step (below_alloc (below_alloc (Below.refl w.heap.size w) (.cells x.enc.toArray 52)) (.cells #[.int .i64 0, .int .i64 0, .int .i64 0, .int .i64 0, .int .i64 0, .int .i64 0, .int .i64 0, .int .i64 0, .int .i64 0, .int .i64 0, .int .i64 0, .int .i64 0, .slice none 0 0, .int .i64 0, .int .i64 0] 52)) hb1)
  have c2 := HBX.out.cell 2 _ rfl
  have c3 := HBX.out.cell 3 _ rfl
  have fx := fun i => HBX.out.ty.frozen i
  have hne : w.heap.size + 1 ≠ w.heap.size := by omega
  clear hb1 BR HR HX
  go_upto_region 26 with fail
  have BY : Bx w.heap.size 52 (x : Th).enc w1 := HBX.out
  have BZ : Bx (w.heap.size + 1) 52 [.int .i64 0, .int .i64 0, .int .i64 0, .int .i64 0, .int .i64 0, .int .i64 0, .int .i64 0, .int .i64 0, .int .i64 0, .int .i64 0, .int .i64 0, .int .i64 0, .slice none 0 0, .int .i64 0, .int .i64 0] w1 := HBR.out
  have HBW := Lib.hid (show Below w.heap.size w w1 from HB.out)
  have HBZ := Lib.hid BZ
  have HRG := Lib.hid BY.range
  have HTH := Lib.hid (show w1.there (w.heap.size + 1) 0 (x : Th).enc.toArray.size from BZ.there)
  have HON := Lib.hid (all_oneCell_toArray (th_ones (x : Th)))
  clear BY BZ
  go_wp2_with (first | (go_loud (refine wpList_load_mid rfl 52 _ rfl w.heap.size 0 rfl _ _ HRG.out Try.underlying52 rfl (by exact th_info) ?_; clear HRG)) | (go_loud (refine wpList_store_mid rfl 52 _ _ rfl (w.heap.size + 1) 0 (x : Th).enc.toArray rfl rfl (by exact HTH.out) (by exact th_info) (by exact HON.out) ?_; clear HTH)) | fail)
  refine bodyPost_ret (results_th (y := x) rfl _ rfl (HBZ.out.sets2 rfl)) rfl ⟨rfl, below_sets (by omega) _ _ _ HBW.out⟩
set_option maxRecDepth 100000 in
set_option maxHeartbeats 25600000 in
theorem rw_3n (x : Th) (t : Nat) (w : World) (ht : t < 8) (hb : ∀ r ∈ x.rl, 0 ≤ r ∧ r ≤ 1000) (hh0 : 0 ≤ x.holds) (hh1 : x.holds ≤ 1000) (hot : x.owner ≠ (t : Int)) :
    Calls Try.prog 65 #[x.v, .int .i64 t, .int .i64 3, .int .i64 0] w fun e w' => e = .returned (.tuple #[(x : Th).v, .bool false]) ∧ Below w.heap.size w w' := by
  have HR := Lib.hid (fun w => Reads_calls x w hb)
  have HX := Lib.hid (Bx.new w x.enc 52)
  have em : (x.owner == (t : Int)) = false := beq_eq_false_iff_ne.2 hot
  clear hot
  generalize sum8 x = S at HR
  clear hb
  unfold Th.v at HR ⊢
  go_enter Try.func65, Try.ntmps65
  go_wp2_with fail
  refine (HR.out _).mono ?_
  rintro e w1 ⟨rfl, hb1⟩
  have HBX := Lib.hid ((HX.out.alloc (.cells #[.int .i64 0, .int .i64 0, .int .i64 0, .int .i64 0, .int .i64 0, .int .i64 0, .int .i64 0, .int .i64 0, .int .i64 0, .int .i64 0, .int .i64 0, .int .i64 0, .slice none 0 0, .int .i64 0, .int .i64 0] 52)).below hb1)
  have BR := (Bx.new (w.alloc (.cells x.enc.toArray 52)) [.int .i64 0, .int .i64 0, .int .i64 0, .int .i64 0, .int .i64 0, .int .i64 0, .int .i64 0, .int .i64 0, .int .i64 0, .int .i64 0, .int .i64 0, .int .i64 0, .slice none 0 0, .int .i64 0, .int .i64 0] 52).below hb1
  rw [alloc_size] at BR
  have HBR := Lib.hid BR
  have HB := Lib.hid (below_step (below_alloc (below_alloc (Below.refl w.heap.size w) (.cells x.enc.toArray 52)) (.cells #[.int .i64 0, .int .i64 0, .int .i64 0, .int .i64 0, .int .i64 0, .int .i64 0, .int .i64 0, .int .i64 0, .int .i64 0, .int .i64 0, .int .i64 0, .int .i64 0, .slice none 0 0, .int .i64 0, .int .i64 0] 52)) hb1)
  have c2 := HBX.out.cell 2 _ rfl
  have c3 := HBX.out.cell 3 _ rfl
  have fx := fun i => HBX.out.ty.frozen i
  have hne : w.heap.size + 1 ≠ w.heap.size := by omega
  clear hb1 BR HR HX
  go_upto_region 26 with fail
  have BY : Bx w.heap.size 52 (x : Th).enc w1 := HBX.out
  have BZ : Bx (w.heap.size + 1) 52 [.int .i64 0, .int .i64 0, .int .i64 0, .int .i64 0, .int .i64 0, .int .i64 0, .int .i64 0, .int .i64 0, .int .i64 0, .int .i64 0, .int .i64 0, .int .i64 0, .slice none 0 0, .int .i64 0, .int .i64 0] w1 := HBR.out
  have HBW := Lib.hid (show Below w.heap.size w w1 from HB.out)
  have HBZ := Lib.hid BZ
  have HRG := Lib.hid BY.range
  have HTH := Lib.hid (show w1.there (w.heap.size + 1) 0 (x : Th).enc.toArray.size from BZ.there)
  have HON := Lib.hid (all_oneCell_toArray (th_ones (x : Th)))
  clear BY BZ
  go_wp2_with (first | (go_loud (refine wpList_load_mid rfl 52 _ rfl w.heap.size 0 rfl _ _ HRG.out Try.underlying52 rfl (by exact th_info) ?_; clear HRG)) | (go_loud (refine wpList_store_mid rfl 52 _ _ rfl (w.heap.size + 1) 0 (x : Th).enc.toArray rfl rfl (by exact HTH.out) (by exact th_info) (by exact HON.out) ?_; clear HTH)) | fail)
  refine bodyPost_ret (results_th (y := x) rfl _ rfl (HBZ.out.sets2 rfl)) rfl ⟨rfl, below_sets (by omega) _ _ _ HBW.out⟩
set_option maxRecDepth 100000 in
set_option maxHeartbeats 25600000 in
theorem rw_50a (x : Th) (t : Nat) (w : World) (ht : t < 8) (hb : ∀ r ∈ x.rl, 0 ≤ r ∧ r ≤ 1000) (hh0 : 0 ≤ x.holds) (hh1 : x.holds ≤ 1000) (ho : x.owner = -1) (hs : 0 < sum8 x) :
    Calls Try.prog 65 #[x.v, .int .i64 t, .int .i64 5, .int .i64 0] w fun e w' => e = .returned (.tuple #[(x : Th).v, .bool true]) ∧ Below w.heap.size w w' := by
  have HR := Lib.hid (fun w => Reads_calls x w hb)
  have HX := Lib.hid (Bx.new w x.enc 52)
  have em : (x.owner == (t : Int)) = false := beq_eq_false_iff_ne.2 (by omega)
  have e1 : (x.owner == (-1)) = true := beq_iff_eq.2 ho
  have e2 : (x.owner != (-1)) = false := by simp [ho]
  generalize sum8 x = S at HR hs
  have s0 : decide (0 < S) = true := decide_eq_true hs
  clear hs ho
  clear hb
  unfold Th.v at HR ⊢
  go_enter Try.func65, Try.ntmps65
  go_wp2_with fail
  refine (HR.out _).mono ?_
  rintro e w1 ⟨rfl, hb1⟩
  have HBX := Lib.hid ((HX.out.alloc (.cells #[.int .i64 0, .int .i64 0, .int .i64 0, .int .i64 0, .int .i64 0, .int .i64 0, .int .i64 0, .int .i64 0, .int .i64 0, .int .i64 0, .int .i64 0, .int .i64 0, .slice none 0 0, .int .i64 0, .int .i64 0] 52)).below hb1)
  have BR := (Bx.new (w.alloc (.cells x.enc.toArray 52)) [.int .i64 0, .int .i64 0, .int .i64 0, .int .i64 0, .int .i64 0, .int .i64 0, .int .i64 0, .int .i64 0, .int .i64 0, .int .i64 0, .int .i64 0, .int .i64 0, .slice none 0 0, .int .i64 0, .int .i64 0] 52).below hb1
  rw [alloc_size] at BR
  have HBR := Lib.hid BR
  have HB := Lib.hid (below_step (below_alloc (below_alloc (Below.refl w.heap.size w) (.cells x.enc.toArray 52)) (.cells #[.int .i64 0, .int .i64 0, .int .i64 0, .int .i64 0, .int .i64 0, .int .i64 0, .int .i64 0, .int .i64 0, .int .i64 0, .int .i64 0, .int .i64 0, .int .i64 0, .slice none 0 0, .int .i64 0, .int .i64 0] 52)) hb1)
  have c2 := HBX.out.cell 2 _ rfl
  have c3 := HBX.out.cell 3 _ rfl
  have fx := fun i => HBX.out.ty.frozen i
  have hne : w.heap.size + 1 ≠ w.heap.size := by omega
  clear hb1 BR HR HX
  go_upto_region 21 with fail
  have BY : Bx w.heap.size 52 (x : Th).enc w1 := HBX.out
  have BZ : Bx (w.heap.size + 1) 52 [.int .i64 0, .int .i64 0, .int .i64 0, .int .i64 0, .int .i64 0, .int .i64 0, .int .i64 0, .int .i64 0, .int .i64 0, .int .i64 0, .int .i64 0, .int .i64 0, .slice none 0 0, .int .i64 0, .int .i64 0] w1 := HBR.out
  have HBW := Lib.hid (show Below w.heap.size w w1 from HB.out)
  have HBZ := Lib.hid BZ
  have HRG := Lib.hid BY.range
  have HTH := Lib.hid (show w1.there (w.heap.size + 1) 0 (x : Th).enc.toArray.size from BZ.there)
  have HON := Lib.hid (all_oneCell_toArray (th_ones (x : Th)))
  clear BY BZ
  go_wp2_with (first | (go_loud (refine wpList_load_mid rfl 52 _ rfl w.heap.size 0 rfl _ _ HRG.out Try.underlying52 rfl (by exact th_info) ?_; clear HRG)) | (go_loud (refine wpList_store_mid rfl 52 _ _ rfl (w.heap.size + 1) 0 (x : Th).enc.toArray rfl rfl (by exact HTH.out) (by exact th_info) (by exact HON.out) ?_; clear HTH)) | fail)
  refine bodyPost_ret (results_th (y := x) rfl _ rfl (HBZ.out.sets2 rfl)) rfl ⟨rfl, below_sets (by omega) _ _ _ HBW.out⟩
set_option maxRecDepth 100000 in
set_option maxHeartbeats 25600000 in
theorem rw_50b (x : Th) (t : Nat) (w : World) (ht : t < 8) (hb : ∀ r ∈ x.rl, 0 ≤ r ∧ r ≤ 1000) (hh0 : 0 ≤ x.holds) (hh1 : x.holds ≤ 1000) (ho1 : x.owner ≠ -1) (hot : x.owner ≠ (t : Int)) :
    Calls Try.prog 65 #[x.v, .int .i64 t, .int .i64 5, .int .i64 0] w fun e w' => e = .returned (.tuple #[(x : Th).v, .bool true]) ∧ Below w.heap.size w w' := by
  have HR := Lib.hid (fun w => Reads_calls x w hb)
  have HX := Lib.hid (Bx.new w x.enc 52)
  have em : (x.owner == (t : Int)) = false := beq_eq_false_iff_ne.2 hot
  have e1 : (x.owner == (-1)) = false := beq_eq_false_iff_ne.2 ho1
  have e2 : (x.owner != (-1)) = true := by simp [ho1]
  clear hot ho1
  generalize sum8 x = S at HR
  clear hb
  unfold Th.v at HR ⊢
  go_enter Try.func65, Try.ntmps65
  go_wp2_with fail
  refine (HR.out _).mono ?_
  rintro e w1 ⟨rfl, hb1⟩
  have HBX := Lib.hid ((HX.out.alloc (.cells #[.int .i64 0, .int .i64 0, .int .i64 0, .int .i64 0, .int .i64 0, .int .i64 0, .int .i64 0, .int .i64 0, .int .i64 0, .int .i64 0, .int .i64 0, .int .i64 0, .slice none 0 0, .int .i64 0, .int .i64 0] 52)).below hb1)
  have BR := (Bx.new (w.alloc (.cells x.enc.toArray 52)) [.int .i64 0, .int .i64 0, .int .i64 0, .int .i64 0, .int .i64 0, .int .i64 0, .int .i64 0, .int .i64 0, .int .i64 0, .int .i64 0, .int .i64 0, .int .i64 0, .slice none 0 0, .int .i64 0, .int .i64 0] 52).below hb1
  rw [alloc_size] at BR
  have HBR := Lib.hid BR
  have HB := Lib.hid (below_step (below_alloc (below_alloc (Below.refl w.heap.size w) (.cells x.enc.toArray 52)) (.cells #[.int .i64 0, .int .i64 0, .int .i64 0, .int .i64 0, .int .i64 0, .int .i64 0, .int .i64 0, .int .i64 0, .int .i64 0, .int .i64 0, .int .i64 0, .int .i64 0, .slice none 0 0, .int .i64 0, .int .i64 0] 52)) hb1)
  have c2 := HBX.out.cell 2 _ rfl
  have c3 := HBX.out.cell 3 _ rfl
  have fx := fun i => HBX.out.ty.frozen i
  have hne : w.heap.size + 1 ≠ w.heap.size := by omega
  clear hb1 BR HR HX
  go_upto_region 21 with fail
  have BY : Bx w.heap.size 52 (x : Th).enc w1 := HBX.out
  have BZ : Bx (w.heap.size + 1) 52 [.int .i64 0, .int .i64 0, .int .i64 0, .int .i64 0, .int .i64 0, .int .i64 0, .int .i64 0, .int .i64 0, .int .i64 0, .int .i64 0, .int .i64 0, .int .i64 0, .slice none 0 0, .int .i64 0, .int .i64 0] w1 := HBR.out
  have HBW := Lib.hid (show Below w.heap.size w w1 from HB.out)
  have HBZ := Lib.hid BZ
  have HRG := Lib.hid BY.range
  have HTH := Lib.hid (show w1.there (w.heap.size + 1) 0 (x : Th).enc.toArray.size from BZ.there)
  have HON := Lib.hid (all_oneCell_toArray (th_ones (x : Th)))
  clear BY BZ
  go_wp2_with (first | (go_loud (refine wpList_load_mid rfl 52 _ rfl w.heap.size 0 rfl _ _ HRG.out Try.underlying52 rfl (by exact th_info) ?_; clear HRG)) | (go_loud (refine wpList_store_mid rfl 52 _ _ rfl (w.heap.size + 1) 0 (x : Th).enc.toArray rfl rfl (by exact HTH.out) (by exact th_info) (by exact HON.out) ?_; clear HTH)) | fail)
  refine bodyPost_ret (results_th (y := x) rfl _ rfl (HBZ.out.sets2 rfl)) rfl ⟨rfl, below_sets (by omega) _ _ _ HBW.out⟩
set_option maxRecDepth 100000 in
set_option maxHeartbeats 25600000 in
theorem rw_51 (x : Th) (t : Nat) (w : World) (ht : t < 8) (hb : ∀ r ∈ x.rl, 0 ≤ r ∧ r ≤ 1000) (hh0 : 0 ≤ x.holds) (hh1 : x.holds ≤ 1000) (ho1 : x.owner ≠ -1) (hot : x.owner ≠ (t : Int)) :
    Calls Try.prog 65 #[x.v, .int .i64 t, .int .i64 5, .int .i64 1] w fun e w' => e = .returned (.tuple #[(x : Th).v, .bool true]) ∧ Below w.heap.size w w' := by
  have HR := Lib.hid (fun w => Reads_calls x w hb)
  have HX := Lib.hid (Bx.new w x.enc 52)
  have em : (x.owner == (t : Int)) = false := beq_eq_false_iff_ne.2 hot
  have e1 : (x.owner == (-1)) = false := beq_eq_false_iff_ne.2 ho1
  have e2 : (x.owner != (-1)) = true := by simp [ho1]
  clear hot ho1
  generalize sum8 x = S at HR
  clear hb
  unfold Th.v at HR ⊢
  go_enter Try.func65, Try.ntmps65
  go_wp2_with fail
  refine (HR.out _).mono ?_
  rintro e w1 ⟨rfl, hb1⟩
  have HBX := Lib.hid ((HX.out.alloc (.cells #[.int .i64 0, .int .i64 0, .int .i64 0, .int .i64 0, .int .i64 0, .int .i64 0, .int .i64 0, .int .i64 0, .int .i64 0, .int .i64 0, .int .i64 0, .int .i64 0, .slice none 0 0, .int .i64 0, .int .i64 0] 52)).below hb1)
  have BR := (Bx.new (w.alloc (.cells x.enc.toArray 52)) [.int .i64 0, .int .i64 0, .int .i64 0, .int .i64 0, .int .i64 0, .int .i64 0, .int .i64 0, .int .i64 0, .int .i64 0, .int .i64 0, .int .i64 0, .int .i64 0, .slice none 0 0, .int .i64 0, .int .i64 0] 52).below hb1
  rw [alloc_size] at BR
  have HBR := Lib.hid BR
  have HB := Lib.hid (below_step (below_alloc (below_alloc (Below.refl w.heap.size w) (.cells x.enc.toArray 52)) (.cells #[.int .i64 0, .int .i64 0, .int .i64 0, .int .i64 0, .int .i64 0, .int .i64 0, .int .i64 0, .int .i64 0, .int .i64 0, .int .i64 0, .int .i64 0, .int .i64 0, .slice none 0 0, .int .i64 0, .int .i64 0] 52)) hb1)
  have c2 := HBX.out.cell 2 _ rfl
  have c3 := HBX.out.cell 3 _ rfl
  have fx := fun i => HBX.out.ty.frozen i
  have hne : w.heap.size + 1 ≠ w.heap.size := by omega
  clear hb1 BR HR HX
  go_upto_region 21 with fail
  have BY : Bx w.heap.size 52 (x : Th).enc w1 := HBX.out
  have BZ : Bx (w.heap.size + 1) 52 [.int .i64 0, .int .i64 0, .int .i64 0, .int .i64 0, .int .i64 0, .int .i64 0, .int .i64 0, .int .i64 0, .int .i64 0, .int .i64 0, .int .i64 0, .int .i64 0, .slice none 0 0, .int .i64 0, .int .i64 0] w1 := HBR.out
  have HBW := Lib.hid (show Below w.heap.size w w1 from HB.out)
  have HBZ := Lib.hid BZ
  have HRG := Lib.hid BY.range
  have HTH := Lib.hid (show w1.there (w.heap.size + 1) 0 (x : Th).enc.toArray.size from BZ.there)
  have HON := Lib.hid (all_oneCell_toArray (th_ones (x : Th)))
  clear BY BZ
  go_wp2_with (first | (go_loud (refine wpList_load_mid rfl 52 _ rfl w.heap.size 0 rfl _ _ HRG.out Try.underlying52 rfl (by exact th_info) ?_; clear HRG)) | (go_loud (refine wpList_store_mid rfl 52 _ _ rfl (w.heap.size + 1) 0 (x : Th).enc.toArray rfl rfl (by exact HTH.out) (by exact th_info) (by exact HON.out) ?_; clear HTH)) | fail)
  refine bodyPost_ret (results_th (y := x) rfl _ rfl (HBZ.out.sets2 rfl)) rfl ⟨rfl, below_sets (by omega) _ _ _ HBW.out⟩
set_option maxRecDepth 100000 in
set_option maxHeartbeats 25600000 in
theorem rw_70n (x : Th) (t : Nat) (w : World) (ht : t < 8) (hb : ∀ r ∈ x.rl, 0 ≤ r ∧ r ≤ 1000) (hh0 : 0 ≤ x.holds) (hh1 : x.holds ≤ 1000) (hot : x.owner ≠ (t : Int)) :
    Calls Try.prog 65 #[x.v, .int .i64 t, .int .i64 7, .int .i64 0] w fun e w' => e = .returned (.tuple #[(x : Th).v, .bool false]) ∧ Below w.heap.size w w' := by
  have HR := Lib.hid (fun w => Reads_calls x w hb)
  have HX := Lib.hid (Bx.new w x.enc 52)
  have em : (x.owner == (t : Int)) = false := beq_eq_false_iff_ne.2 hot
  clear hot
  generalize sum8 x = S at HR
  clear hb
  unfold Th.v at HR ⊢
  go_enter Try.func65, Try.ntmps65
  go_wp2_with fail
  refine (HR.out _).mono ?_
  rintro e w1 ⟨rfl, hb1⟩
  have HBX := Lib.hid ((HX.out.alloc (.cells #[.int .i64 0, .int .i64 0, .int .i64 0, .int .i64 0, .int .i64 0, .int .i64 0, .int .i64 0, .int .i64 0, .int .i64 0, .int .i64 0, .int .i64 0, .int .i64 0, .slice none 0 0, .int .i64 0, .int .i64 0] 52)).below hb1)
  have BR := (Bx.new (w.alloc (.cells x.enc.toArray 52)) [.int .i64 0, .int .i64 0, .int .i64 0, .int .i64 0, .int .i64 0, .int .i64 0, .int .i64 0, .int .i64 0, .int .i64 0, .int .i64 0, .int .i64 0, .int .i64 0, .slice none 0 0, .int .i64 0, .int .i64 0] 52).below hb1
  rw [alloc_size] at BR
  have HBR := Lib.hid BR
  have HB := Lib.hid (below_step (below_alloc (below_alloc (Below.refl w.heap.size w) (.cells x.enc.toArray 52)) (.cells #[.int .i64 0, .int .i64 0, .int .i64 0, .int .i64 0, .int .i64 0, .int .i64 0, .int .i64 0, .int .i64 0, .int .i64 0, .int .i64 0, .int .i64 0, .int .i64 0, .slice none 0 0, .int .i64 0, .int .i64 0] 52)) hb1)
  have c2 := HBX.out.cell 2 _ rfl
  have c3 := HBX.out.cell 3 _ rfl
  have fx := fun i => HBX.out.ty.frozen i
  have hne : w.heap.size + 1 ≠ w.heap.size := by omega
  clear hb1 BR HR HX
  go_upto_region 25 with fail
  have BY : Bx w.heap.size 52 (x : Th).enc w1 := HBX.out
  have BZ : Bx (w.heap.size + 1) 52 [.int .i64 0, .int .i64 0, .int .i64 0, .int .i64 0, .int .i64 0, .int .i64 0, .int .i64 0, .int .i64 0, .int .i64 0, .int .i64 0, .int .i64 0, .int .i64 0, .slice none 0 0, .int .i64 0, .int .i64 0] w1 := HBR.out
  have HBW := Lib.hid (show Below w.heap.size w w1 from HB.out)
  have HBZ := Lib.hid BZ
  have HRG := Lib.hid BY.range
  have HTH := Lib.hid (show w1.there (w.heap.size + 1) 0 (x : Th).enc.toArray.size from BZ.there)
  have HON := Lib.hid (all_oneCell_toArray (th_ones (x : Th)))
  clear BY BZ
  go_wp2_with (first | (go_loud (refine wpList_load_mid rfl 52 _ rfl w.heap.size 0 rfl _ _ HRG.out Try.underlying52 rfl (by exact th_info) ?_; clear HRG)) | (go_loud (refine wpList_store_mid rfl 52 _ _ rfl (w.heap.size + 1) 0 (x : Th).enc.toArray rfl rfl (by exact HTH.out) (by exact th_info) (by exact HON.out) ?_; clear HTH)) | fail)
  refine bodyPost_ret (results_th (y := x) rfl _ rfl (HBZ.out.sets2 rfl)) rfl ⟨rfl, below_sets (by omega) _ _ _ HBW.out⟩
set_option maxRecDepth 100000 in
set_option maxHeartbeats 25600000 in
theorem rw_71n (x : Th) (t : Nat) (w : World) (ht : t < 8) (hb : ∀ r ∈ x.rl, 0 ≤ r ∧ r ≤ 1000) (hh0 : 0 ≤ x.holds) (hh1 : x.holds ≤ 1000) (hs : sum8 x < 1000) :
    Calls Try.prog 65 #[x.v, .int .i64 t, .int .i64 7, .int .i64 1] w fun e w' => e = .returned (.tuple #[(x : Th).v, .bool false]) ∧ Below w.heap.size w w' := by
  have HR := Lib.hid (fun w => Reads_calls x w hb)
  have HX := Lib.hid (Bx.new w x.enc 52)
  generalize sum8 x = S at HR hs
  have s0 : (S == 1000) = false := beq_eq_false_iff_ne.2 (by omega)
  clear hs
  clear hb
  unfold Th.v at HR ⊢
  go_enter Try.func65, Try.ntmps65
  go_wp2_with fail
  refine (HR.out _).mono ?_
  rintro e w1 ⟨rfl, hb1⟩
  have HBX := Lib.hid ((HX.out.alloc (.cells #[.int .i64 0, .int .i64 0, .int .i64 0, .int .i64 0, .int .i64 0, .int .i64 0, .int .i64 0, .int .i64 0, .int .i64 0, .int .i64 0, .int .i64 0, .int .i64 0, .slice none 0 0, .int .i64 0, .int .i64 0] 52)).below hb1)
  have BR := (Bx.new (w.alloc (.cells x.enc.toArray 52)) [.int .i64 0, .int .i64 0, .int .i64 0, .int .i64 0, .int .i64 0, .int .i64 0, .int .i64 0, .int .i64 0, .int .i64 0, .int .i64 0, .int .i64 0, .int .i64 0, .slice none 0 0, .int .i64 0, .int .i64 0] 52).below hb1
  rw [alloc_size] at BR
  have HBR := Lib.hid BR
  have HB := Lib.hid (below_step (below_alloc (below_alloc (Below.refl w.heap.size w) (.cells x.enc.toArray 52)) (.cells #[.int .i64 0, .int .i64 0, .int .i64 0, .int .i64 0, .int .i64 0, .int .i64 0, .int .i64 0, .int .i64 0, .int .i64 0, .int .i64 0, .int .i64 0, .int .i64 0, .slice none 0 0, .int .i64 0, .int .i64 0] 52)) hb1)
  have c2 := HBX.out.cell 2 _ rfl
  have c3 := HBX.out.cell 3 _ rfl
  have fx := fun i => HBX.out.ty.frozen i
  have hne : w.heap.size + 1 ≠ w.heap.size := by omega
  clear hb1 BR HR HX
  go_upto_region 25 with fail
  have BY : Bx w.heap.size 52 (x : Th).enc w1 := HBX.out
  have BZ : Bx (w.heap.size + 1) 52 [.int .i64 0, .int .i64 0, .int .i64 0, .int .i64 0, .int .i64 0, .int .i64 0, .int .i64 0, .int .i64 0, .int .i64 0, .int .i64 0, .int .i64 0, .int .i64 0, .slice none 0 0, .int .i64 0, .int .i64 0] w1 := HBR.out
  have HBW := Lib.hid (show Below w.heap.size w w1 from HB.out)
  have HBZ := Lib.hid BZ
  have HRG := Lib.hid BY.range
  have HTH := Lib.hid (show w1.there (w.heap.size + 1) 0 (x : Th).enc.toArray.size from BZ.there)
  have HON := Lib.hid (all_oneCell_toArray (th_ones (x : Th)))
  clear BY BZ
  go_wp2_with (first | (go_loud (refine wpList_load_mid rfl 52 _ rfl w.heap.size 0 rfl _ _ HRG.out Try.underlying52 rfl (by exact th_info) ?_; clear HRG)) | (go_loud (refine wpList_store_mid rfl 52 _ _ rfl (w.heap.size + 1) 0 (x : Th).enc.toArray rfl rfl (by exact HTH.out) (by exact th_info) (by exact HON.out) ?_; clear HTH)) | fail)
  refine bodyPost_ret (results_th (y := x) rfl _ rfl (HBZ.out.sets2 rfl)) rfl ⟨rfl, below_sets (by omega) _ _ _ HBW.out⟩
end Go.Proofs.Ytegjkheecbmioaa
