/- The model's rows for a RW: reads, one less, what may not be. -/
import Derived.Test.YtegjkheecbmioaaRwE
import Derived.Test.YtegjkheecbmioaaMuf
import Derived.Test.YtegjkheecbmioaaFst
namespace Go.Proofs.Ytegjkheecbmioaa
open Go.RowKit
set_option linter.unusedVariables false
set_option linter.unusedSimpArgs false

set_option maxRecDepth 100000 in
set_option maxHeartbeats 25600000 in
theorem rw_2a (x : Th) (t : Nat) (w : World) (ht : t < 8) (hb : ∀ r ∈ x.rl, 0 ≤ r ∧ r ≤ 1000) (hh0 : 0 ≤ x.holds) (hh1 : x.holds ≤ 1000) (ho : x.owner = -1) (hs : sum8 x < 1000) :
    Calls Try.prog 65 #[x.v, .int .i64 t, .int .i64 2, .int .i64 0] w fun e w' => e = .returned (.tuple #[(x.addR t (1)).v, .bool true]) ∧ Below w.heap.size w w' := by
  have HR := Lib.hid (fun w => Reads_calls x w hb)
  have HX := Lib.hid (Bx.new w x.enc 52)
  have HE := Lib.hid (enc_r x ht)
  have HN := Lib.hid (enc_addR x ht (1))
  have hg := hb (x.rl.getD t 0) (by rw [List.getD_eq_getElem?_getD, List.getElem?_eq_getElem (by exact ht)]; exact List.getElem_mem _)
  have hk0 : (0 : Int) ≤ (t : Int) := by omega
  have hk1 : (t : Int) < 8 := by omega
  have em : (x.owner == (t : Int)) = false := beq_eq_false_iff_ne.2 (by omega)
  have e1 : (x.owner == (-1)) = true := beq_iff_eq.2 ho
  generalize sum8 x = S at HR hs
  have s0 : decide (S < 1000) = true := decide_eq_true hs
  clear hs ho
  generalize hy : x.addR t (1) = y at HN ⊢
  clear hy
  generalize x.rl.getD t 0 = a at HE HN hg ⊢
  have a1 : IntKind.i64.wrap (a + 1) = a + 1 := by rw [IntKind.wrap_i64]; omega
  generalize hyv : y.v = yv
  have HYV := Lib.hid hyv
  clear hyv hb hg ht
  unfold Th.v at HR ⊢
  go_enter Try.func65, Try.ntmps65
  go_wp2_with fail
  refine (HR.out _).mono ?_
  rintro e w1 ⟨rfl, hb1⟩
  have HBX := Lib.hid ((HX.out.alloc (.cells #[.int .i64 0, .int .i64 0, .int .i64 0, .int .i64 0, .int .i64 0, .int .i64 0, .int .i64 0, .int .i64 0, .int .i64 0, .int .i64 0, .int .i64 0, .int .i64 0, .slice none 0 0, .int .i64 0, .int .i64 0] 52)).below hb1)
  have BR := (Bx.new (w.alloc (.cells x.enc.toArray 52)) [.int .i64 0, .int .i64 0, .int .i64 0, .int .i64 0, .int .i64 0, .int .i64 0, .int .i64 0, .int .i64 0, .int .i64 0, .int .i64 0, .int .i64 0, .int .i64 0, .slice none 0 0, .int .i64 0, .int .i64 0] 52).below hb1
  rw [alloc_size] at BR
  have HBR := Lib.hid BR
  have HB := Lib.hid (below_step (below_alloc (below_alloc (Below.refl w.heap.size w) (.cells x.enc.toArray 52)) (.cells #[.int .i64 0, .int .i64 0, .int .i64 0, .int .i64 0, .int .i64 0, .int .i64 0, .int .i64 0, .int .i64 0, .int .i64 0, .int .i64 0, .int .i64 0, .int .i64 0, .slice none 0 0, .int .i64 0, .int .i64 0] 52)) hb1)
  have c2 := HBX.out.cell 2 _ rfl
  have c3 := HBX.out.cell 3 _ rfl
  have ct := HBX.out.cell (4 + t) _ HE.out
  have fx := fun i => HBX.out.ty.frozen i
  have hne : w.heap.size + 1 ≠ w.heap.size := by omega
  clear hb1 BR HR HX
  go_upto_region 12 with fail
  have BY : Bx w.heap.size 52 y.enc (w1.setCell ⟨w.heap.size, 4 + t, none⟩ (.int .i64 (a + 1))) := by rw [← HN.out]; exact HBX.out.set (4 + t) (.int .i64 (a + 1))
  have BZ : Bx (w.heap.size + 1) 52 [.int .i64 0, .int .i64 0, .int .i64 0, .int .i64 0, .int .i64 0, .int .i64 0, .int .i64 0, .int .i64 0, .int .i64 0, .int .i64 0, .int .i64 0, .int .i64 0, .slice none 0 0, .int .i64 0, .int .i64 0] (w1.setCell ⟨w.heap.size, 4 + t, none⟩ (.int .i64 (a + 1))) := HBR.out.other hne
  have HBW := Lib.hid (show Below w.heap.size w (w1.setCell ⟨w.heap.size, 4 + t, none⟩ (.int .i64 (a + 1))) from below_set HB.out (Nat.le_refl _))
  have HBZ := Lib.hid BZ
  have HRG := Lib.hid BY.range
  have HTH := Lib.hid (show (w1.setCell ⟨w.heap.size, 4 + t, none⟩ (.int .i64 (a + 1))).there (w.heap.size + 1) 0 y.enc.toArray.size from BZ.there)
  have HON := Lib.hid (all_oneCell_toArray (th_ones y))
  clear BY BZ c2 c3 ct fx
  go_wp2_with (first | (go_loud (refine wpList_load_mid rfl 52 _ rfl w.heap.size 0 rfl _ _ HRG.out Try.underlying52 rfl (by exact th_info) ?_; clear HRG)) | (go_loud (refine wpList_store_mid rfl 52 _ _ rfl (w.heap.size + 1) 0 y.enc.toArray rfl rfl (by exact HTH.out) (by exact th_info) (by exact HON.out) ?_; clear HTH)) | fail)
  refine bodyPost_ret (results_th (y := y) rfl _ rfl (HBZ.out.sets2 rfl)) rfl ⟨by rw [← HYV.out]; rfl, below_sets (by omega) _ _ _ HBW.out⟩
set_option maxRecDepth 100000 in
set_option maxHeartbeats 25600000 in
theorem rw_2b (x : Th) (t : Nat) (w : World) (ht : t < 8) (hb : ∀ r ∈ x.rl, 0 ≤ r ∧ r ≤ 1000) (hh0 : 0 ≤ x.holds) (hh1 : x.holds ≤ 1000) (ho : x.owner = (t : Int)) (hs : sum8 x < 1000) :
    Calls Try.prog 65 #[x.v, .int .i64 t, .int .i64 2, .int .i64 0] w fun e w' => e = .returned (.tuple #[(x.addR t (1)).v, .bool true]) ∧ Below w.heap.size w w' := by
  have HR := Lib.hid (fun w => Reads_calls x w hb)
  have HX := Lib.hid (Bx.new w x.enc 52)
  have HE := Lib.hid (enc_r x ht)
  have HN := Lib.hid (enc_addR x ht (1))
  have hg := hb (x.rl.getD t 0) (by rw [List.getD_eq_getElem?_getD, List.getElem?_eq_getElem (by exact ht)]; exact List.getElem_mem _)
  have hk0 : (0 : Int) ≤ (t : Int) := by omega
  have hk1 : (t : Int) < 8 := by omega
  have em : (x.owner == (t : Int)) = true := beq_iff_eq.2 ho
  have e1 : (x.owner == (-1)) = false := beq_eq_false_iff_ne.2 (by omega)
  generalize sum8 x = S at HR hs
  have s0 : decide (S < 1000) = true := decide_eq_true hs
  clear hs ho
  generalize hy : x.addR t (1) = y at HN ⊢
  clear hy
  generalize x.rl.getD t 0 = a at HE HN hg ⊢
  have a1 : IntKind.i64.wrap (a + 1) = a + 1 := by rw [IntKind.wrap_i64]; omega
  generalize hyv : y.v = yv
  have HYV := Lib.hid hyv
  clear hyv hb hg ht
  unfold Th.v at HR ⊢
  go_enter Try.func65, Try.ntmps65
  go_wp2_with fail
  refine (HR.out _).mono ?_
  rintro e w1 ⟨rfl, hb1⟩
  have HBX := Lib.hid ((HX.out.alloc (.cells #[.int .i64 0, .int .i64 0, .int .i64 0, .int .i64 0, .int .i64 0, .int .i64 0, .int .i64 0, .int .i64 0, .int .i64 0, .int .i64 0, .int .i64 0, .int .i64 0, .slice none 0 0, .int .i64 0, .int .i64 0] 52)).below hb1)
  have BR := (Bx.new (w.alloc (.cells x.enc.toArray 52)) [.int .i64 0, .int .i64 0, .int .i64 0, .int .i64 0, .int .i64 0, .int .i64 0, .int .i64 0, .int .i64 0, .int .i64 0, .int .i64 0, .int .i64 0, .int .i64 0, .slice none 0 0, .int .i64 0, .int .i64 0] 52).below hb1
  rw [alloc_size] at BR
  have HBR := Lib.hid BR
  have HB := Lib.hid (below_step (below_alloc (below_alloc (Below.refl w.heap.size w) (.cells x.enc.toArray 52)) (.cells #[.int .i64 0, .int .i64 0, .int .i64 0, .int .i64 0, .int .i64 0, .int .i64 0, .int .i64 0, .int .i64 0, .int .i64 0, .int .i64 0, .int .i64 0, .int .i64 0, .slice none 0 0, .int .i64 0, .int .i64 0] 52)) hb1)
  have c2 := HBX.out.cell 2 _ rfl
  have c3 := HBX.out.cell 3 _ rfl
  have ct := HBX.out.cell (4 + t) _ HE.out
  have fx := fun i => HBX.out.ty.frozen i
  have hne : w.heap.size + 1 ≠ w.heap.size := by omega
  clear hb1 BR HR HX
  go_upto_region 12 with fail
  have BY : Bx w.heap.size 52 y.enc (w1.setCell ⟨w.heap.size, 4 + t, none⟩ (.int .i64 (a + 1))) := by rw [← HN.out]; exact HBX.out.set (4 + t) (.int .i64 (a + 1))
  have BZ : Bx (w.heap.size + 1) 52 [.int .i64 0, .int .i64 0, .int .i64 0, .int .i64 0, .int .i64 0, .int .i64 0, .int .i64 0, .int .i64 0, .int .i64 0, .int .i64 0, .int .i64 0, .int .i64 0, .slice none 0 0, .int .i64 0, .int .i64 0] (w1.setCell ⟨w.heap.size, 4 + t, none⟩ (.int .i64 (a + 1))) := HBR.out.other hne
  have HBW := Lib.hid (show Below w.heap.size w (w1.setCell ⟨w.heap.size, 4 + t, none⟩ (.int .i64 (a + 1))) from below_set HB.out (Nat.le_refl _))
  have HBZ := Lib.hid BZ
  have HRG := Lib.hid BY.range
  have HTH := Lib.hid (show (w1.setCell ⟨w.heap.size, 4 + t, none⟩ (.int .i64 (a + 1))).there (w.heap.size + 1) 0 y.enc.toArray.size from BZ.there)
  have HON := Lib.hid (all_oneCell_toArray (th_ones y))
  clear BY BZ c2 c3 ct fx
  go_wp2_with (first | (go_loud (refine wpList_load_mid rfl 52 _ rfl w.heap.size 0 rfl _ _ HRG.out Try.underlying52 rfl (by exact th_info) ?_; clear HRG)) | (go_loud (refine wpList_store_mid rfl 52 _ _ rfl (w.heap.size + 1) 0 y.enc.toArray rfl rfl (by exact HTH.out) (by exact th_info) (by exact HON.out) ?_; clear HTH)) | fail)
  refine bodyPost_ret (results_th (y := y) rfl _ rfl (HBZ.out.sets2 rfl)) rfl ⟨by rw [← HYV.out]; rfl, below_sets (by omega) _ _ _ HBW.out⟩
set_option maxRecDepth 100000 in
set_option maxHeartbeats 25600000 in
theorem rw_4y (x : Th) (t : Nat) (w : World) (ht : t < 8) (hb : ∀ r ∈ x.rl, 0 ≤ r ∧ r ≤ 1000) (hh0 : 0 ≤ x.holds) (hh1 : x.holds ≤ 1000) (hr : 0 < x.rl.getD t 0) :
    Calls Try.prog 65 #[x.v, .int .i64 t, .int .i64 4, .int .i64 0] w fun e w' => e = .returned (.tuple #[(x.addR t (-1)).v, .bool true]) ∧ Below w.heap.size w w' := by
  have HR := Lib.hid (fun w => Reads_calls x w hb)
  have HX := Lib.hid (Bx.new w x.enc 52)
  have HE := Lib.hid (enc_r x ht)
  have HN := Lib.hid (enc_addR x ht (-1))
  have hg := hb (x.rl.getD t 0) (by rw [List.getD_eq_getElem?_getD, List.getElem?_eq_getElem (by exact ht)]; exact List.getElem_mem _)
  have hk0 : (0 : Int) ≤ (t : Int) := by omega
  have hk1 : (t : Int) < 8 := by omega
  generalize sum8 x = S at HR
  generalize hy : x.addR t (-1) = y at HN ⊢
  clear hy
  generalize x.rl.getD t 0 = a at HE HN hg hr ⊢
  have a1 : IntKind.i64.wrap (a - 1) = a + -1 := by rw [IntKind.wrap_i64]; omega
  have d1 : decide (0 < a) = true := decide_eq_true hr
  clear hr
  generalize hyv : y.v = yv
  have HYV := Lib.hid hyv
  clear hyv hb hg ht
  unfold Th.v at HR ⊢
  go_enter Try.func65, Try.ntmps65
  go_wp2_with fail
  refine (HR.out _).mono ?_
  rintro e w1 ⟨rfl, hb1⟩
  have HBX := Lib.hid ((HX.out.alloc (.cells #[.int .i64 0, .int .i64 0, .int .i64 0, .int .i64 0, .int .i64 0, .int .i64 0, .int .i64 0, .int .i64 0, .int .i64 0, .int .i64 0, .int .i64 0, .int .i64 0, .slice none 0 0, .int .i64 0, .int .i64 0] 52)).below hb1)
  have BR := (Bx.new (w.alloc (.cells x.enc.toArray 52)) [.int .i64 0, .int .i64 0, .int .i64 0, .int .i64 0, .int .i64 0, .int .i64 0, .int .i64 0, .int .i64 0, .int .i64 0, .int .i64 0, .int .i64 0, .int .i64 0, .slice none 0 0, .int .i64 0, .int .i64 0] 52).below hb1
  rw [alloc_size] at BR
  have HBR := Lib.hid BR
  have HB := Lib.hid (below_step (below_alloc (below_alloc (Below.refl w.heap.size w) (.cells x.enc.toArray 52)) (.cells #[.int .i64 0, .int .i64 0, .int .i64 0, .int .i64 0, .int .i64 0, .int .i64 0, .int .i64 0, .int .i64 0, .int .i64 0, .int .i64 0, .int .i64 0, .int .i64 0, .slice none 0 0, .int .i64 0, .int .i64 0] 52)) hb1)
  have c2 := HBX.out.cell 2 _ rfl
  have c3 := HBX.out.cell 3 _ rfl
  have ct := HBX.out.cell (4 + t) _ HE.out
  have fx := fun i => HBX.out.ty.frozen i
  have hne : w.heap.size + 1 ≠ w.heap.size := by omega
  clear hb1 BR HR HX
  go_upto_region 19 with fail
  have BY : Bx w.heap.size 52 y.enc (w1.setCell ⟨w.heap.size, 4 + t, none⟩ (.int .i64 (a + -1))) := by rw [← HN.out]; exact HBX.out.set (4 + t) (.int .i64 (a + -1))
  have BZ : Bx (w.heap.size + 1) 52 [.int .i64 0, .int .i64 0, .int .i64 0, .int .i64 0, .int .i64 0, .int .i64 0, .int .i64 0, .int .i64 0, .int .i64 0, .int .i64 0, .int .i64 0, .int .i64 0, .slice none 0 0, .int .i64 0, .int .i64 0] (w1.setCell ⟨w.heap.size, 4 + t, none⟩ (.int .i64 (a + -1))) := HBR.out.other hne
  have HBW := Lib.hid (show Below w.heap.size w (w1.setCell ⟨w.heap.size, 4 + t, none⟩ (.int .i64 (a + -1))) from below_set HB.out (Nat.le_refl _))
  have HBZ := Lib.hid BZ
  have HRG := Lib.hid BY.range
  have HTH := Lib.hid (show (w1.setCell ⟨w.heap.size, 4 + t, none⟩ (.int .i64 (a + -1))).there (w.heap.size + 1) 0 y.enc.toArray.size from BZ.there)
  have HON := Lib.hid (all_oneCell_toArray (th_ones y))
  clear BY BZ c2 c3 ct fx
  go_wp2_with (first | (go_loud (refine wpList_load_mid rfl 52 _ rfl w.heap.size 0 rfl _ _ HRG.out Try.underlying52 rfl (by exact th_info) ?_; clear HRG)) | (go_loud (refine wpList_store_mid rfl 52 _ _ rfl (w.heap.size + 1) 0 y.enc.toArray rfl rfl (by exact HTH.out) (by exact th_info) (by exact HON.out) ?_; clear HTH)) | fail)
  refine bodyPost_ret (results_th (y := y) rfl _ rfl (HBZ.out.sets2 rfl)) rfl ⟨by rw [← HYV.out]; rfl, below_sets (by omega) _ _ _ HBW.out⟩
set_option maxRecDepth 100000 in
set_option maxHeartbeats 25600000 in
theorem rw_4n (x : Th) (t : Nat) (w : World) (ht : t < 8) (hb : ∀ r ∈ x.rl, 0 ≤ r ∧ r ≤ 1000) (hh0 : 0 ≤ x.holds) (hh1 : x.holds ≤ 1000) (hr : x.rl.getD t 0 = 0) :
    Calls Try.prog 65 #[x.v, .int .i64 t, .int .i64 4, .int .i64 0] w fun e w' => e = .returned (.tuple #[(x : Th).v, .bool false]) ∧ Below w.heap.size w w' := by
  have HR := Lib.hid (fun w => Reads_calls x w hb)
  have HE := Lib.hid (enc_r x ht)
  have hk0 : (0 : Int) ≤ (t : Int) := by omega
  have hk1 : (t : Int) < 8 := by omega
  rw [hr] at HE
  clear hr
  have HX := Lib.hid (Bx.new w x.enc 52)
  generalize sum8 x = S at HR
  clear hb
  unfold Th.v at HR ⊢
  go_enter Try.func65, Try.ntmps65
  go_wp2_with fail
  refine (HR.out _).mono ?_
  rintro e w1 ⟨rfl, hb1⟩
  have HBX := Lib.hid ((HX.out.alloc (.cells #[.int .i64 0, .int .i64 0, .int .i64 0, .int .i64 0, .int .i64 0, .int .i64 0, .int .i64 0, .int .i64 0, .int .i64 0, .int .i64 0, .int .i64 0, .int .i64 0, .slice none 0 0, .int .i64 0, .int .i64 0] 52)).below hb1)
  have BR := (Bx.new (w.alloc (.cells x.enc.toArray 52)) [.int .i64 0, .int .i64 0, .int .i64 0, .int .i64 0, .int .i64 0, .int .i64 0, .int .i64 0, .int .i64 0, .int .i64 0, .int .i64 0, .int .i64 0, .int .i64 0, .slice none 0 0, .int .i64 0, .int .i64 0] 52).below hb1
  rw [alloc_size] at BR
  have HBR := Lib.hid BR
  have HB := Lib.hid (below_step (below_alloc (below_alloc (Below.refl w.heap.size w) (.cells x.enc.toArray 52)) (.cells #[.int .i64 0, .int .i64 0, .int .i64 0, .int .i64 0, .int .i64 0, .int .i64 0, .int .i64 0, .int .i64 0, .int .i64 0, .int .i64 0, .int .i64 0, .int .i64 0, .slice none 0 0, .int .i64 0, .int .i64 0] 52)) hb1)
  have c2 := HBX.out.cell 2 _ rfl
  have c3 := HBX.out.cell 3 _ rfl
  have ct := HBX.out.cell (4 + t) _ HE.out
  have fx := fun i => HBX.out.ty.frozen i
  have hne : w.heap.size + 1 ≠ w.heap.size := by omega
  clear hb1 BR HR HX
  go_upto_region 26 with fail
  have BY : Bx w.heap.size 52 (x : Th).enc w1 := HBX.out
  have BZ : Bx (w.heap.size + 1) 52 [.int .i64 0, .int .i64 0, .int .i64 0, .int .i64 0, .int .i64 0, .int .i64 0, .int .i64 0, .int .i64 0, .int .i64 0, .int .i64 0, .int .i64 0, .int .i64 0, .slice none 0 0, .int .i64 0, .int .i64 0] w1 := HBR.out
  have HBW := Lib.hid (show Below w.heap.size w w1 from HB.out)
  have HBZ := Lib.hid BZ
  have HRG := Lib.hid BY.range
  have HTH := Lib.hid (show w1.there (w.heap.size + 1) 0 (x : Th).enc.toArray.size from BZ.there)
  have HON := Lib.hid (all_oneCell_toArray (th_ones (x : Th)))
  clear BY BZ
  go_wp2_with (first | (go_loud (refine wpList_load_mid rfl 52 _ rfl w.heap.size 0 rfl _ _ HRG.out Try.underlying52 rfl (by exact th_info) ?_; clear HRG)) | (go_loud (refine wpList_store_mid rfl 52 _ _ rfl (w.heap.size + 1) 0 (x : Th).enc.toArray rfl rfl (by exact HTH.out) (by exact th_info) (by exact HON.out) ?_; clear HTH)) | fail)
  refine bodyPost_ret (results_th (y := x) rfl _ rfl (HBZ.out.sets2 rfl)) rfl ⟨rfl, below_sets (by omega) _ _ _ HBW.out⟩
theorem freedX_1 (x : Th) (hk : x.kind = 4) (hh : x.holds = 1) (w : World) : Calls Try.prog 71 #[x.v] w fun e w' => e = .returned ({ x with owner := -1, holds := 0 } : Th).v ∧ Below w.heap.size w w' := by
  obtain ⟨xk, xn, xo, xh, x0, x1, x2, x3, x4, x5, x6, x7, xf, xi⟩ := x
  obtain rfl : xk = 4 := hk
  obtain rfl : xh = 1 := hh
  exact freed_1 xn xo x0 x1 x2 x3 x4 x5 x6 x7 xf xi w
theorem freedX_2 (x : Th) (hk : x.kind = 4) (h1 : 2 ≤ x.holds) (h2 : x.holds ≤ 1000) (w : World) : Calls Try.prog 71 #[x.v] w fun e w' => e = .returned ({ x with holds := x.holds - 1 } : Th).v ∧ Below w.heap.size w w' := by
  obtain ⟨xk, xn, xo, xh, x0, x1, x2, x3, x4, x5, x6, x7, xf, xi⟩ := x
  obtain rfl : xk = 4 := hk
  exact freed_2 xn xo xh x0 x1 x2 x3 x4 x5 x6 x7 xf xi h1 h2 w
set_option maxRecDepth 100000 in
set_option maxHeartbeats 25600000 in
theorem rw_3y1 (x : Th) (t : Nat) (w : World) (ht : t < 8) (hb : ∀ r ∈ x.rl, 0 ≤ r ∧ r ≤ 1000) (hh0 : 0 ≤ x.holds) (hh1 : x.holds ≤ 1000) (hk : x.kind = 4) (ho : x.owner = (t : Int)) (hh : x.holds = 1) :
    Calls Try.prog 65 #[x.v, .int .i64 t, .int .i64 3, .int .i64 0] w fun e w' => e = .returned (.tuple #[({ x with owner := -1, holds := 0 } : Th).v, .bool true]) ∧ Below w.heap.size w w' := by
  have HR := Lib.hid (fun w => Reads_calls x w hb)
  have HF := Lib.hid (fun w => freedX_1 x hk hh w)
  clear hk hh
  have HX := Lib.hid (Bx.new w x.enc 52)
  have em : (x.owner == (t : Int)) = true := beq_iff_eq.2 ho
  clear ho
  generalize sum8 x = S at HR
  generalize hyv : ({ x with owner := -1, holds := 0 } : Th).v = yv
  have HYV := Lib.hid hyv
  clear hyv hb
  unfold Th.v at HR HF ⊢
  go_enter Try.func65, Try.ntmps65
  go_wp2_with fail
  refine (HR.out _).mono ?_
  rintro e w1 ⟨rfl, hb1⟩
  have HBX := Lib.hid ((HX.out.alloc (.cells #[.int .i64 0, .int .i64 0, .int .i64 0, .int .i64 0, .int .i64 0, .int .i64 0, .int .i64 0, .int .i64 0, .int .i64 0, .int .i64 0, .int .i64 0, .int .i64 0, .slice none 0 0, .int .i64 0, .int .i64 0] 52)).below hb1)
  have BR := (Bx.new (w.alloc (.cells x.enc.toArray 52)) [.int .i64 0, .int .i64 0, .int .i64 0, .int .i64 0, .int .i64 0, .int .i64 0, .int .i64 0, .int .i64 0, .int .i64 0, .int .i64 0, .int .i64 0, .int .i64 0, .slice none 0 0, .int .i64 0, .int .i64 0] 52).below hb1
  rw [alloc_size] at BR
  have HBR := Lib.hid BR
  have HB := Lib.hid (below_step (below_alloc (below_alloc (Below.refl w.heap.size w) (.cells x.enc.toArray 52)) (.cells #[.int .i64 0, .int .i64 0, .int .i64 0, .int .i64 0, .int .i64 0, .int .i64 0, .int .i64 0, .int .i64 0, .int .i64 0, .int .i64 0, .int .i64 0, .int .i64 0, .slice none 0 0, .int .i64 0, .int .i64 0] 52)) hb1)
  have c2 := HBX.out.cell 2 _ rfl
  have c3 := HBX.out.cell 3 _ rfl
  have fx := fun i => HBX.out.ty.frozen i
  have hne : w.heap.size + 1 ≠ w.heap.size := by omega
  clear hb1 BR HR HX
  go_upto_region 15 with fail
  have HRG := Lib.hid HBX.out.range
  clear c2 c3 fx
  go_wp2_with (first | (go_loud (refine wpList_load_mid rfl 52 _ rfl w.heap.size 0 rfl _ _ HRG.out Try.underlying52 rfl (by exact th_info) ?_; clear HRG)) | fail)
  refine (HF.out _).mono ?_
  rintro e w2 ⟨rfl, hb2⟩
  have HBW := Lib.hid (below_step HB.out hb2)
  have HBZ := Lib.hid (HBR.out.below hb2)
  have HTH := Lib.hid (show w2.there (w.heap.size + 1) 0 ({ x with owner := -1, holds := 0 } : Th).enc.toArray.size from HBZ.out.there)
  have HON := Lib.hid (all_oneCell_toArray (th_ones ({ x with owner := -1, holds := 0 } : Th)))
  clear hb2
  go_wp2_with (first | (go_loud (refine wpList_store_mid rfl 52 _ _ rfl (w.heap.size + 1) 0 ({ x with owner := -1, holds := 0 } : Th).enc.toArray rfl rfl (by exact HTH.out) (by exact th_info) (by exact HON.out) ?_; clear HTH)) | fail)
  refine bodyPost_ret (results_th (y := { x with owner := -1, holds := 0 }) rfl _ rfl (HBZ.out.sets2 rfl)) rfl ⟨by rw [← HYV.out]; rfl, below_sets (by omega) _ _ _ HBW.out⟩
set_option maxRecDepth 100000 in
set_option maxHeartbeats 25600000 in
theorem rw_3y2 (x : Th) (t : Nat) (w : World) (ht : t < 8) (hb : ∀ r ∈ x.rl, 0 ≤ r ∧ r ≤ 1000) (hh0 : 0 ≤ x.holds) (hh1 : x.holds ≤ 1000) (hk : x.kind = 4) (ho : x.owner = (t : Int)) (hh : 2 ≤ x.holds) :
    Calls Try.prog 65 #[x.v, .int .i64 t, .int .i64 3, .int .i64 0] w fun e w' => e = .returned (.tuple #[({ x with holds := x.holds - 1 } : Th).v, .bool true]) ∧ Below w.heap.size w w' := by
  have HR := Lib.hid (fun w => Reads_calls x w hb)
  have HF := Lib.hid (fun w => freedX_2 x hk hh hh1 w)
  clear hk hh
  have HX := Lib.hid (Bx.new w x.enc 52)
  have em : (x.owner == (t : Int)) = true := beq_iff_eq.2 ho
  clear ho
  generalize sum8 x = S at HR
  generalize hyv : ({ x with holds := x.holds - 1 } : Th).v = yv
  have HYV := Lib.hid hyv
  clear hyv hb
  unfold Th.v at HR HF ⊢
  go_enter Try.func65, Try.ntmps65
  go_wp2_with fail
  refine (HR.out _).mono ?_
  rintro e w1 ⟨rfl, hb1⟩
  have HBX := Lib.hid ((HX.out.alloc (.cells #[.int .i64 0, .int .i64 0, .int .i64 0, .int .i64 0, .int .i64 0, .int .i64 0, .int .i64 0, .int .i64 0, .int .i64 0, .int .i64 0, .int .i64 0, .int .i64 0, .slice none 0 0, .int .i64 0, .int .i64 0] 52)).below hb1)
  have BR := (Bx.new (w.alloc (.cells x.enc.toArray 52)) [.int .i64 0, .int .i64 0, .int .i64 0, .int .i64 0, .int .i64 0, .int .i64 0, .int .i64 0, .int .i64 0, .int .i64 0, .int .i64 0, .int .i64 0, .int .i64 0, .slice none 0 0, .int .i64 0, .int .i64 0] 52).below hb1
  rw [alloc_size] at BR
  have HBR := Lib.hid BR
  have HB := Lib.hid (below_step (below_alloc (below_alloc (Below.refl w.heap.size w) (.cells x.enc.toArray 52)) (.cells #[.int .i64 0, .int .i64 0, .int .i64 0, .int .i64 0, .int .i64 0, .int .i64 0, .int .i64 0, .int .i64 0, .int .i64 0, .int .i64 0, .int .i64 0, .int .i64 0, .slice none 0 0, .int .i64 0, .int .i64 0] 52)) hb1)
  have c2 := HBX.out.cell 2 _ rfl
  have c3 := HBX.out.cell 3 _ rfl
  have fx := fun i => HBX.out.ty.frozen i
  have hne : w.heap.size + 1 ≠ w.heap.size := by omega
  clear hb1 BR HR HX
  go_upto_region 15 with fail
  have HRG := Lib.hid HBX.out.range
  clear c2 c3 fx
  go_wp2_with (first | (go_loud (refine wpList_load_mid rfl 52 _ rfl w.heap.size 0 rfl _ _ HRG.out Try.underlying52 rfl (by exact th_info) ?_; clear HRG)) | fail)
  refine (HF.out _).mono ?_
  rintro e w2 ⟨rfl, hb2⟩
  have HBW := Lib.hid (below_step HB.out hb2)
  have HBZ := Lib.hid (HBR.out.below hb2)
  have HTH := Lib.hid (show w2.there (w.heap.size + 1) 0 ({ x with holds := x.holds - 1 } : Th).enc.toArray.size from HBZ.out.there)
  have HON := Lib.hid (all_oneCell_toArray (th_ones ({ x with holds := x.holds - 1 } : Th)))
  clear hb2
  go_wp2_with (first | (go_loud (refine wpList_store_mid rfl 52 _ _ rfl (w.heap.size + 1) 0 ({ x with holds := x.holds - 1 } : Th).enc.toArray rfl rfl (by exact HTH.out) (by exact th_info) (by exact HON.out) ?_; clear HTH)) | fail)
  refine bodyPost_ret (results_th (y := { x with holds := x.holds - 1 }) rfl _ rfl (HBZ.out.sets2 rfl)) rfl ⟨by rw [← HYV.out]; rfl, below_sets (by omega) _ _ _ HBW.out⟩
set_option maxRecDepth 100000 in
set_option maxHeartbeats 25600000 in
theorem rw_60 (x : Th) (t : Nat) (w : World) (ht : t < 8) (hb : ∀ r ∈ x.rl, 0 ≤ r ∧ r ≤ 1000) (hh0 : 0 ≤ x.holds) (hh1 : x.holds ≤ 1000) (hot : x.owner ≠ (t : Int)) :
    Calls Try.prog 65 #[x.v, .int .i64 t, .int .i64 6, .int .i64 0] w fun e w' => e = .returned (.tuple #[(x : Th).v, .bool true]) ∧ Below w.heap.size w w' := by
  have HR := Lib.hid (fun w => Reads_calls x w hb)
  have HX := Lib.hid (Bx.new w x.enc 52)
  have em : (x.owner == (t : Int)) = false := beq_eq_false_iff_ne.2 hot
  clear hot
  generalize sum8 x = S at HR
  clear hb
  unfold Th.v at HR ⊢
  go_enter Try.func65, Try.ntmps65
  go_wp2_with fail
  refine (HR.out _).mono ?_
  rintro e w1 ⟨rfl, hb1⟩
  have HBX := Lib.hid ((HX.out.alloc (.cells #[.int .i64 0, .int .i64 0, .int .i64 0, .int .i64 0, .int .i64 0, .int .i64 0, .int .i64 0, .int .i64 0, .int .i64 0, .int .i64 0, .int .i64 0, .int .i64 0, .slice none 0 0, .int .i64 0, .int .i64 0] 52)).below hb1)
  have BR := (Bx.new (w.alloc (.cells x.enc.toArray 52)) [.int .i64 0, .int .i64 0, .int .i64 0, .int .i64 0, .int .i64 0, .int .i64 0, .int .i64 0, .int .i64 0, .int .i64 0, .int .i64 0, .int .i64 0, .int .i64 0, .slice none 0 0, .int .i64 0, .int .i64 0] 52).below hb1
  rw [alloc_size] at BR
  have HBR := Lib.hid BR
  have HB := Lib.hid (below_step (below_alloc (below_alloc (Below.refl w.heap.size w) (.cells x.enc.toArray 52)) (.cells #[.int .i64 0, .int .i64 0, .int .i64 0, .int .i64 0, .int .i64 0, .int .i64 0, .int .i64 0, .int .i64 0, .int .i64 0, .int .i64 0, .int .i64 0, .int .i64 0, .slice none 0 0, .int .i64 0, .int .i64 0] 52)) hb1)
  have c2 := HBX.out.cell 2 _ rfl
  have c3 := HBX.out.cell 3 _ rfl
  have fx := fun i => HBX.out.ty.frozen i
  have hne : w.heap.size + 1 ≠ w.heap.size := by omega
  clear hb1 BR HR HX
  go_upto_region 23 with fail
  clear c2 c3 fx
  have HON := Lib.hid (all_oneCell_toArray (th_ones x))
  refine Muf.region (.q 0 (.q 1 (.q 2 (.q 3 (.q 4 (.q 5 (.q 6 (.q 7 (.q 8 (.q 9 (.q 10 (.q 11 (.q 12 (.q 13 (.q 14 (.q 15 (.q 16 (.q 17 (.m 18 (.m 19 .nil)))))))))))))))))))) [0, 1, 2, 3, 4, 5, 6, 7, 8, 9, 10, 11, 12, 13, 14, 15, 16, 17, 18] (fun w' => Bx w.heap.size 52 x.enc w' ∧ Below w.heap.size w w') (by kernel_rfl) (by kernel_rfl) ⟨HBX.out.drew1, below_drew1 HB.out⟩ ?_
  apply Muf.quiet; (· (simp only [List.getElem?_toArray, List.getElem?_cons_succ, List.getElem?_cons_zero]) <;> rfl); (· intro w' hR V hV; have zb := hR.1; have z0 := zb.cell 0 _ rfl; have z1 := zb.cell 1 _ rfl; have z2 := zb.cell 2 _ rfl; have z3 := zb.cell 3 _ rfl; have z4 := zb.cell 4 _ rfl; have z5 := zb.cell 5 _ rfl; have z6 := zb.cell 6 _ rfl; have z7 := zb.cell 7 _ rfl; have z8 := zb.cell 8 _ rfl; have z9 := zb.cell 9 _ rfl; have z10 := zb.cell 10 _ rfl; have z11 := zb.cell 11 _ rfl; have z12 := zb.cell 12 _ rfl; have z13 := zb.cell 13 _ rfl; have z14 := zb.cell 14 _ rfl; clear zb; go_simp; exact hV); intro K hK; simp only [Act.put, List.setIfInBounds_toArray, List.set_cons_zero, List.set_cons_succ]; refine hK _ ?_; clear hK K
  apply Muf.quiet; (· (simp only [List.getElem?_toArray, List.getElem?_cons_succ, List.getElem?_cons_zero]) <;> rfl); (· intro w' hR V hV; go_simp; exact hV); intro K hK; simp only [Act.put, List.setIfInBounds_toArray, List.set_cons_zero, List.set_cons_succ]; refine hK _ ?_; clear hK K
  apply Muf.quiet; (· (simp only [List.getElem?_toArray, List.getElem?_cons_succ, List.getElem?_cons_zero]) <;> rfl); (· intro w' hR V hV; go_simp; exact hV); intro K hK; simp only [Act.put, List.setIfInBounds_toArray, List.set_cons_zero, List.set_cons_succ]; refine hK _ ?_; clear hK K
  apply Muf.quiet; (· (simp only [List.getElem?_toArray, List.getElem?_cons_succ, List.getElem?_cons_zero]) <;> rfl); (· intro w' hR V hV; go_simp; exact hV); intro K hK; simp only [Act.put, List.setIfInBounds_toArray, List.set_cons_zero, List.set_cons_succ]; refine hK _ ?_; clear hK K
  apply Muf.quiet; (· (simp only [List.getElem?_toArray, List.getElem?_cons_succ, List.getElem?_cons_zero]) <;> rfl); (· intro w' hR V hV; go_simp; exact hV); intro K hK; simp only [Act.put, List.setIfInBounds_toArray, List.set_cons_zero, List.set_cons_succ]; refine hK _ ?_; clear hK K
  apply Muf.quiet; (· (simp only [List.getElem?_toArray, List.getElem?_cons_succ, List.getElem?_cons_zero]) <;> rfl); (· intro w' hR V hV; go_simp; exact hV); intro K hK; simp only [Act.put, List.setIfInBounds_toArray, List.set_cons_zero, List.set_cons_succ]; refine hK _ ?_; clear hK K
  apply Muf.quiet; (· (simp only [List.getElem?_toArray, List.getElem?_cons_succ, List.getElem?_cons_zero]) <;> rfl); (· intro w' hR V hV; go_simp; exact hV); intro K hK; simp only [Act.put, List.setIfInBounds_toArray, List.set_cons_zero, List.set_cons_succ]; refine hK _ ?_; clear hK K
  apply Muf.quiet; (· (simp only [List.getElem?_toArray, List.getElem?_cons_succ, List.getElem?_cons_zero]) <;> rfl); (· intro w' hR V hV; go_simp; exact hV); intro K hK; simp only [Act.put, List.setIfInBounds_toArray, List.set_cons_zero, List.set_cons_succ]; refine hK _ ?_; clear hK K
  apply Muf.quiet; (· (simp only [List.getElem?_toArray, List.getElem?_cons_succ, List.getElem?_cons_zero]) <;> rfl); (· intro w' hR V hV; go_simp; exact hV); intro K hK; simp only [Act.put, List.setIfInBounds_toArray, List.set_cons_zero, List.set_cons_succ]; refine hK _ ?_; clear hK K
  apply Muf.quiet; (· (simp only [List.getElem?_toArray, List.getElem?_cons_succ, List.getElem?_cons_zero]) <;> rfl); (· intro w' hR V hV; go_simp; exact hV); intro K hK; simp only [Act.put, List.setIfInBounds_toArray, List.set_cons_zero, List.set_cons_succ]; refine hK _ ?_; clear hK K
  apply Muf.quiet; (· (simp only [List.getElem?_toArray, List.getElem?_cons_succ, List.getElem?_cons_zero]) <;> rfl); (· intro w' hR V hV; go_simp; exact hV); intro K hK; simp only [Act.put, List.setIfInBounds_toArray, List.set_cons_zero, List.set_cons_succ]; refine hK _ ?_; clear hK K
  apply Muf.quiet; (· (simp only [List.getElem?_toArray, List.getElem?_cons_succ, List.getElem?_cons_zero]) <;> rfl); (· intro w' hR V hV; go_simp; exact hV); intro K hK; simp only [Act.put, List.setIfInBounds_toArray, List.set_cons_zero, List.set_cons_succ]; refine hK _ ?_; clear hK K
  apply Muf.quiet; (· (simp only [List.getElem?_toArray, List.getElem?_cons_succ, List.getElem?_cons_zero]) <;> rfl); (· intro w' hR V hV; go_simp; exact hV); intro K hK; simp only [Act.put, List.setIfInBounds_toArray, List.set_cons_zero, List.set_cons_succ]; refine hK _ ?_; clear hK K
  apply Muf.quiet; (· (simp only [List.getElem?_toArray, List.getElem?_cons_succ, List.getElem?_cons_zero]) <;> rfl); (· intro w' hR V hV; go_simp; exact hV); intro K hK; simp only [Act.put, List.setIfInBounds_toArray, List.set_cons_zero, List.set_cons_succ]; refine hK _ ?_; clear hK K
  apply Muf.quiet; (· (simp only [List.getElem?_toArray, List.getElem?_cons_succ, List.getElem?_cons_zero]) <;> rfl); (· intro w' hR V hV; go_simp; exact hV); intro K hK; simp only [Act.put, List.setIfInBounds_toArray, List.set_cons_zero, List.set_cons_succ]; refine hK _ ?_; clear hK K
  apply Muf.quiet; (· (simp only [List.getElem?_toArray, List.getElem?_cons_succ, List.getElem?_cons_zero]) <;> rfl); (· intro w' hR V hV; go_simp; exact hV); intro K hK; simp only [Act.put, List.setIfInBounds_toArray, List.set_cons_zero, List.set_cons_succ]; refine hK _ ?_; clear hK K
  apply Muf.quiet; (· (simp only [List.getElem?_toArray, List.getElem?_cons_succ, List.getElem?_cons_zero]) <;> rfl); (· intro w' hR V hV; go_simp; exact hV); intro K hK; simp only [Act.put, List.setIfInBounds_toArray, List.set_cons_zero, List.set_cons_succ]; refine hK _ ?_; clear hK K
  apply Muf.quiet; (· (simp only [List.getElem?_toArray, List.getElem?_cons_succ, List.getElem?_cons_zero]) <;> rfl); (· intro w' hR V hV; go_simp; exact hV); intro K hK; simp only [Act.put, List.setIfInBounds_toArray, List.set_cons_zero, List.set_cons_succ]; refine hK _ ?_; clear hK K
  have BZ : Bx (w.heap.size + 1) 52 [.int .i64 0, .int .i64 0, .int .i64 0, .int .i64 0, .int .i64 0, .int .i64 0, .int .i64 0, .int .i64 0, .int .i64 0, .int .i64 0, .int .i64 0, .int .i64 0, .slice none 0 0, .int .i64 0, .int .i64 0] w1.drew := HBR.out.drew1
  have HTH := Lib.hid (show w1.drew.there (w.heap.size + 1) 0 x.enc.toArray.size from BZ.there)
  have HBZ := Lib.hid BZ
  clear BZ
  refine Muf.mover (Muf.chk rfl (by decide) ?_)
  go_wp2_with (first | (go_loud (refine wpList_store_mid rfl 52 _ _ rfl (w.heap.size + 1) 0 x.enc.toArray rfl rfl (by exact HTH.out) (by exact th_info) (by exact HON.out) ?_; clear HTH)) | fail)
  refine ⟨⟨HBX.out.drew1.only (only_setCells (S := (· = w.heap.size + 1)) rfl _ _ _) hne.symm, below_sets (by omega) _ _ _ (below_drew1 HB.out)⟩, ?_⟩
  refine Muf.mover (Muf.bare rfl (by decide) ?_)
  go_wp2_with fail
  refine Muf.done ?_
  go_wp2_with fail
  refine bodyPost_ret (results_th (y := x) rfl _ rfl (HBZ.out.sets2 rfl)) rfl ⟨rfl, below_sets (by omega) _ _ _ (below_drew1 HB.out)⟩
set_option maxRecDepth 100000 in
set_option maxHeartbeats 25600000 in
theorem rw_61 (x : Th) (t : Nat) (w : World) (ht : t < 8) (hb : ∀ r ∈ x.rl, 0 ≤ r ∧ r ≤ 1000) (hh0 : 0 ≤ x.holds) (hh1 : x.holds ≤ 1000) (hr : x.rl.getD t 0 = 0) :
    Calls Try.prog 65 #[x.v, .int .i64 t, .int .i64 6, .int .i64 1] w fun e w' => e = .returned (.tuple #[(x : Th).v, .bool true]) ∧ Below w.heap.size w w' := by
  have HR := Lib.hid (fun w => Reads_calls x w hb)
  have HE := Lib.hid (enc_r x ht)
  have hk0 : (0 : Int) ≤ (t : Int) := by omega
  have hk1 : (t : Int) < 8 := by omega
  rw [hr] at HE
  clear hr
  have HX := Lib.hid (Bx.new w x.enc 52)
  generalize hem : (x.owner == (t : Int)) = em
  clear hem
  generalize sum8 x = S at HR
  clear hb
  unfold Th.v at HR ⊢
  go_enter Try.func65, Try.ntmps65
  go_wp2_with fail
  refine (HR.out _).mono ?_
  rintro e w1 ⟨rfl, hb1⟩
  have HBX := Lib.hid ((HX.out.alloc (.cells #[.int .i64 0, .int .i64 0, .int .i64 0, .int .i64 0, .int .i64 0, .int .i64 0, .int .i64 0, .int .i64 0, .int .i64 0, .int .i64 0, .int .i64 0, .int .i64 0, .slice none 0 0, .int .i64 0, .int .i64 0] 52)).below hb1)
  have BR := (Bx.new (w.alloc (.cells x.enc.toArray 52)) [.int .i64 0, .int .i64 0, .int .i64 0, .int .i64 0, .int .i64 0, .int .i64 0, .int .i64 0, .int .i64 0, .int .i64 0, .int .i64 0, .int .i64 0, .int .i64 0, .slice none 0 0, .int .i64 0, .int .i64 0] 52).below hb1
  rw [alloc_size] at BR
  have HBR := Lib.hid BR
  have HB := Lib.hid (below_step (below_alloc (below_alloc (Below.refl w.heap.size w) (.cells x.enc.toArray 52)) (.cells #[.int .i64 0, .int .i64 0, .int .i64 0, .int .i64 0, .int .i64 0, .int .i64 0, .int .i64 0, .int .i64 0, .int .i64 0, .int .i64 0, .int .i64 0, .int .i64 0, .slice none 0 0, .int .i64 0, .int .i64 0] 52)) hb1)
  have c2 := HBX.out.cell 2 _ rfl
  have c3 := HBX.out.cell 3 _ rfl
  have fx := fun i => HBX.out.ty.frozen i
  have hne : w.heap.size + 1 ≠ w.heap.size := by omega
  clear hb1 BR HR HX
  go_upto_region 23 with fail
  clear c2 c3 fx
  have HON := Lib.hid (all_oneCell_toArray (th_ones x))
  refine Muf.region (.q 0 (.q 1 (.q 2 (.q 3 (.q 4 (.q 5 (.q 6 (.q 7 (.q 8 (.q 9 (.q 10 (.q 11 (.q 12 (.q 13 (.q 14 (.q 15 (.q 16 (.q 17 (.m 18 (.m 19 .nil)))))))))))))))))))) [0, 1, 2, 3, 4, 5, 6, 7, 8, 9, 10, 11, 12, 13, 14, 15, 16, 17, 18] (fun w' => Bx w.heap.size 52 x.enc w' ∧ Below w.heap.size w w') (by kernel_rfl) (by kernel_rfl) ⟨HBX.out.drew1, below_drew1 HB.out⟩ ?_
  apply Muf.quiet; (· (simp only [List.getElem?_toArray, List.getElem?_cons_succ, List.getElem?_cons_zero]) <;> rfl); (· intro w' hR V hV; have zb := hR.1; have z0 := zb.cell 0 _ rfl; have z1 := zb.cell 1 _ rfl; have z2 := zb.cell 2 _ rfl; have z3 := zb.cell 3 _ rfl; have z4 := zb.cell 4 _ rfl; have z5 := zb.cell 5 _ rfl; have z6 := zb.cell 6 _ rfl; have z7 := zb.cell 7 _ rfl; have z8 := zb.cell 8 _ rfl; have z9 := zb.cell 9 _ rfl; have z10 := zb.cell 10 _ rfl; have z11 := zb.cell 11 _ rfl; have z12 := zb.cell 12 _ rfl; have z13 := zb.cell 13 _ rfl; have z14 := zb.cell 14 _ rfl; clear zb; go_simp; exact hV); intro K hK; simp only [Act.put, List.setIfInBounds_toArray, List.set_cons_zero, List.set_cons_succ]; refine hK _ ?_; clear hK K
  apply Muf.quiet; (· (simp only [List.getElem?_toArray, List.getElem?_cons_succ, List.getElem?_cons_zero]) <;> rfl); (· intro w' hR V hV; go_simp; exact hV); intro K hK; simp only [Act.put, List.setIfInBounds_toArray, List.set_cons_zero, List.set_cons_succ]; refine hK _ ?_; clear hK K
  apply Muf.quiet; (· (simp only [List.getElem?_toArray, List.getElem?_cons_succ, List.getElem?_cons_zero]) <;> rfl); (· intro w' hR V hV; go_simp; exact hV); intro K hK; simp only [Act.put, List.setIfInBounds_toArray, List.set_cons_zero, List.set_cons_succ]; refine hK _ ?_; clear hK K
  apply Muf.quiet; (· (simp only [List.getElem?_toArray, List.getElem?_cons_succ, List.getElem?_cons_zero]) <;> rfl); (· intro w' hR V hV; go_simp; exact hV); intro K hK; simp only [Act.put, List.setIfInBounds_toArray, List.set_cons_zero, List.set_cons_succ]; refine hK _ ?_; clear hK K
  apply Muf.quiet; (· (simp only [List.getElem?_toArray, List.getElem?_cons_succ, List.getElem?_cons_zero]) <;> rfl); (· intro w' hR V hV; go_simp; exact hV); intro K hK; simp only [Act.put, List.setIfInBounds_toArray, List.set_cons_zero, List.set_cons_succ]; refine hK _ ?_; clear hK K
  apply Muf.quiet; (· (simp only [List.getElem?_toArray, List.getElem?_cons_succ, List.getElem?_cons_zero]) <;> rfl); (· intro w' hR V hV; go_simp; exact hV); intro K hK; simp only [Act.put, List.setIfInBounds_toArray, List.set_cons_zero, List.set_cons_succ]; refine hK _ ?_; clear hK K
  apply Muf.quiet; (· (simp only [List.getElem?_toArray, List.getElem?_cons_succ, List.getElem?_cons_zero]) <;> rfl); (· intro w' hR V hV; go_simp; exact hV); intro K hK; simp only [Act.put, List.setIfInBounds_toArray, List.set_cons_zero, List.set_cons_succ]; refine hK _ ?_; clear hK K
  apply Muf.quiet; (· (simp only [List.getElem?_toArray, List.getElem?_cons_succ, List.getElem?_cons_zero]) <;> rfl); (· intro w' hR V hV; go_simp; exact hV); intro K hK; simp only [Act.put, List.setIfInBounds_toArray, List.set_cons_zero, List.set_cons_succ]; refine hK _ ?_; clear hK K
  apply Muf.quiet; (· (simp only [List.getElem?_toArray, List.getElem?_cons_succ, List.getElem?_cons_zero]) <;> rfl); (· intro w' hR V hV; go_simp; exact hV); intro K hK; simp only [Act.put, List.setIfInBounds_toArray, List.set_cons_zero, List.set_cons_succ]; refine hK _ ?_; clear hK K
  apply Muf.quiet; (· (simp only [List.getElem?_toArray, List.getElem?_cons_succ, List.getElem?_cons_zero]) <;> rfl); (· intro w' hR V hV; go_simp; exact hV); intro K hK; simp only [Act.put, List.setIfInBounds_toArray, List.set_cons_zero, List.set_cons_succ]; refine hK _ ?_; clear hK K
  apply Muf.quiet; (· (simp only [List.getElem?_toArray, List.getElem?_cons_succ, List.getElem?_cons_zero]) <;> rfl); (· intro w' hR V hV; go_simp; exact hV); intro K hK; simp only [Act.put, List.setIfInBounds_toArray, List.set_cons_zero, List.set_cons_succ]; refine hK _ ?_; clear hK K
  apply Muf.quiet; (· (simp only [List.getElem?_toArray, List.getElem?_cons_succ, List.getElem?_cons_zero]) <;> rfl); (· intro w' hR V hV; go_simp; exact hV); intro K hK; simp only [Act.put, List.setIfInBounds_toArray, List.set_cons_zero, List.set_cons_succ]; refine hK _ ?_; clear hK K
  apply Muf.quiet; (· (simp only [List.getElem?_toArray, List.getElem?_cons_succ, List.getElem?_cons_zero]) <;> rfl); (· intro w' hR V hV; go_simp; exact hV); intro K hK; simp only [Act.put, List.setIfInBounds_toArray, List.set_cons_zero, List.set_cons_succ]; refine hK _ ?_; clear hK K
  apply Muf.quiet; (· (simp only [List.getElem?_toArray, List.getElem?_cons_succ, List.getElem?_cons_zero]) <;> rfl); (· intro w' hR V hV; first | (go_simp; exact hV) | (go_simp; rw [if_pos ⟨hk0, hk1⟩]; exact hV)); intro K hK; simp only [Act.put, List.setIfInBounds_toArray, List.set_cons_zero, List.set_cons_succ]; refine hK _ ?_; clear hK K
  apply Muf.quiet; (· (simp only [List.getElem?_toArray, List.getElem?_cons_succ, List.getElem?_cons_zero]) <;> rfl); (· intro w' hR V hV; have z1 := hR.1.cell (4 + t) _ HE.out; go_simp; exact hV); intro K hK; simp only [Act.put, List.setIfInBounds_toArray, List.set_cons_zero, List.set_cons_succ]; refine hK _ ?_; clear hK K
  apply Muf.quiet; (· (simp only [List.getElem?_toArray, List.getElem?_cons_succ, List.getElem?_cons_zero]) <;> rfl); (· intro w' hR V hV; go_simp; exact hV); intro K hK; simp only [Act.put, List.setIfInBounds_toArray, List.set_cons_zero, List.set_cons_succ]; refine hK _ ?_; clear hK K
  apply Muf.quiet; (· (simp only [List.getElem?_toArray, List.getElem?_cons_succ, List.getElem?_cons_zero]) <;> rfl); (· intro w' hR V hV; go_simp; exact hV); intro K hK; simp only [Act.put, List.setIfInBounds_toArray, List.set_cons_zero, List.set_cons_succ]; refine hK _ ?_; clear hK K
  apply Muf.quiet; (· (simp only [List.getElem?_toArray, List.getElem?_cons_succ, List.getElem?_cons_zero]) <;> rfl); (· intro w' hR V hV; go_simp; exact hV); intro K hK; simp only [Act.put, List.setIfInBounds_toArray, List.set_cons_zero, List.set_cons_succ]; refine hK _ ?_; clear hK K
  have BZ : Bx (w.heap.size + 1) 52 [.int .i64 0, .int .i64 0, .int .i64 0, .int .i64 0, .int .i64 0, .int .i64 0, .int .i64 0, .int .i64 0, .int .i64 0, .int .i64 0, .int .i64 0, .int .i64 0, .slice none 0 0, .int .i64 0, .int .i64 0] w1.drew := HBR.out.drew1
  have HTH := Lib.hid (show w1.drew.there (w.heap.size + 1) 0 x.enc.toArray.size from BZ.there)
  have HBZ := Lib.hid BZ
  clear BZ
  refine Muf.mover (Muf.chk rfl (by decide) ?_)
  go_wp2_with (first | (go_loud (refine wpList_store_mid rfl 52 _ _ rfl (w.heap.size + 1) 0 x.enc.toArray rfl rfl (by exact HTH.out) (by exact th_info) (by exact HON.out) ?_; clear HTH)) | fail)
  refine ⟨⟨HBX.out.drew1.only (only_setCells (S := (· = w.heap.size + 1)) rfl _ _ _) hne.symm, below_sets (by omega) _ _ _ (below_drew1 HB.out)⟩, ?_⟩
  refine Muf.mover (Muf.bare rfl (by decide) ?_)
  go_wp2_with fail
  refine Muf.done ?_
  go_wp2_with fail
  refine bodyPost_ret (results_th (y := x) rfl _ rfl (HBZ.out.sets2 rfl)) rfl ⟨rfl, below_sets (by omega) _ _ _ (below_drew1 HB.out)⟩
end Go.Proofs.Ytegjkheecbmioaa
