/- The walks of the reference's 'one', instruction by instruction. -/
import Derived.Test.YtegjkheecbmioaaOneB
import Derived.Test.YtegjkheecbmioaaMix
namespace Go.Proofs.Ytegjkheecbmioaa
open Go.RowKit
set_option linter.unusedVariables false
set_option linter.unusedSimpArgs false
theorem i64_small {x : Int} (h0 : 0 ≤ x) (h1 : x ≤ 1000000) : IntKind.i64.wrap x = x := by rw [IntKind.wrap_i64]; omega
set_option maxRecDepth 100000 in
set_option maxHeartbeats 3200000 in
theorem one_set (w : World) (B bW bT bL bF a b c i : Nat) (n : Int) (f : Fr) (s : St) (ha : a ≤ 15) (hb : b ≤ 15) (hc : c ≤ 15) (hW : WAt B bW bT bL s w) (hF : FrAt bF f w) (hB : B ≤ bF) :
    Calls Try.prog 47 #[.pointer (some ⟨bW, 0, none⟩), .agg #[.int .i64 1, .int .i64 a, .int .i64 b, .int .i64 c, .int .i64 n], .int .i64 i, .pointer (some ⟨bF, 0, none⟩)] w
      (OnePost w B bW bT bL bF 1 (-1) 0 0 (f.set a (n)) s) := by
  have a0 : (0 : Int) ≤ (a : Int) := by omega
  have a1 : (a : Int) < 16 := by omega
  have b0 : (0 : Int) ≤ (b : Int) := by omega
  have b1 : (b : Int) < 16 := by omega
  have c0 : (0 : Int) ≤ (c : Int) := by omega
  have c1 : (c : Int) < 16 := by omega
  have E0 := Lib.hid (Env.start hW hF hB [.int .i64 1, .int .i64 a, .int .i64 b, .int .i64 c, .int .i64 n])
  clear hW hF
  go_enter Try.func47, Try.ntmps47
  go_wp2_with fail
  obtain ⟨y, hy⟩ : ∃ y, y = (((w.alloc (.cells #[.int .i64 1, .int .i64 a, .int .i64 b, .int .i64 c, .int .i64 n] 95)).alloc (.cells #[.int .i64 0, .int .i64 0] 40)).alloc (.cells #[.int .i64 (-1), .int .i64 0] 40)) := ⟨_, rfl⟩
  rw [← hy] at E0 ⊢
  clear hy
  have k0 := E0.out.x5.cell 0 _ rfl
  have k1 := E0.out.x5.cell 1 _ rfl
  have k2 := E0.out.x5.cell 2 _ rfl
  have k3 := E0.out.x5.cell 3 _ rfl
  have k4 := E0.out.x5.cell 4 _ rfl
  have r_a := E0.out.fr.get (k := a) (by omega)
  have fzF := fun k => E0.out.fr.fz k
  go_region
  have E1 := Lib.hid ((E0.out.setR a (n)).drew)
  obtain ⟨z, hz⟩ : ∃ z, z = (y.setCell ⟨bF, 1 + a, none⟩ (.int .i64 (n))).drew := ⟨_, rfl⟩
  rw [← hz] at E1 ⊢
  clear hz E0
  clear k0 k1 k2 k3 k4 fzF r_a
  obtain ⟨p9, q9, h9⟩ := E1.out.x9
  have m0 := h9.cell 0 _ rfl
  have m1 := h9.cell 1 _ rfl
  have mf := fun i => h9.ty.frozen i
  have r0 := E1.out.x11.cell 0 _ rfl
  have r1 := E1.out.x11.cell 1 _ rfl
  clear h9
  go_wp2_with fail
  go_region
  go_wp2_with fail
  have EF := (E1.out.set9 (-1) 0).drew
  refine bodyPost_ret (v := .tuple #[.int .i64 1, .agg #[.int .i64 (-1), .int .i64 0], .int .i64 0]) ?_ rfl ?_
  · simp [results, Try.results47, go_sem, m0, m1]
  · exact ⟨rfl, EF.wa, EF.fr, EF.ch⟩
set_option maxRecDepth 100000 in
set_option maxHeartbeats 3200000 in
theorem one_mov (w : World) (B bW bT bL bF a b c i : Nat) (n : Int) (f : Fr) (s : St) (ha : a ≤ 15) (hb : b ≤ 15) (hc : c ≤ 15) (hW : WAt B bW bT bL s w) (hF : FrAt bF f w) (hB : B ≤ bF) :
    Calls Try.prog 47 #[.pointer (some ⟨bW, 0, none⟩), .agg #[.int .i64 2, .int .i64 a, .int .i64 b, .int .i64 c, .int .i64 n], .int .i64 i, .pointer (some ⟨bF, 0, none⟩)] w
      (OnePost w B bW bT bL bF 1 (-1) 0 0 (f.set a (f.R b)) s) := by
  have a0 : (0 : Int) ≤ (a : Int) := by omega
  have a1 : (a : Int) < 16 := by omega
  have b0 : (0 : Int) ≤ (b : Int) := by omega
  have b1 : (b : Int) < 16 := by omega
  have c0 : (0 : Int) ≤ (c : Int) := by omega
  have c1 : (c : Int) < 16 := by omega
  have E0 := Lib.hid (Env.start hW hF hB [.int .i64 2, .int .i64 a, .int .i64 b, .int .i64 c, .int .i64 n])
  clear hW hF
  go_enter Try.func47, Try.ntmps47
  go_wp2_with fail
  obtain ⟨y, hy⟩ : ∃ y, y = (((w.alloc (.cells #[.int .i64 2, .int .i64 a, .int .i64 b, .int .i64 c, .int .i64 n] 95)).alloc (.cells #[.int .i64 0, .int .i64 0] 40)).alloc (.cells #[.int .i64 (-1), .int .i64 0] 40)) := ⟨_, rfl⟩
  rw [← hy] at E0 ⊢
  clear hy
  have k0 := E0.out.x5.cell 0 _ rfl
  have k1 := E0.out.x5.cell 1 _ rfl
  have k2 := E0.out.x5.cell 2 _ rfl
  have k3 := E0.out.x5.cell 3 _ rfl
  have k4 := E0.out.x5.cell 4 _ rfl
  have r_a := E0.out.fr.get (k := a) (by omega)
  have r_b := E0.out.fr.get (k := b) (by omega)
  have fzF := fun k => E0.out.fr.fz k
  go_region
  have E1 := Lib.hid ((E0.out.setR a (f.R b)).drew)
  obtain ⟨z, hz⟩ : ∃ z, z = (y.setCell ⟨bF, 1 + a, none⟩ (.int .i64 (f.R b))).drew := ⟨_, rfl⟩
  rw [← hz] at E1 ⊢
  clear hz E0
  clear k0 k1 k2 k3 k4 fzF r_a r_b
  obtain ⟨p9, q9, h9⟩ := E1.out.x9
  have m0 := h9.cell 0 _ rfl
  have m1 := h9.cell 1 _ rfl
  have mf := fun i => h9.ty.frozen i
  have r0 := E1.out.x11.cell 0 _ rfl
  have r1 := E1.out.x11.cell 1 _ rfl
  clear h9
  go_wp2_with fail
  go_region
  go_wp2_with fail
  have EF := (E1.out.set9 (-1) 0).drew
  refine bodyPost_ret (v := .tuple #[.int .i64 1, .agg #[.int .i64 (-1), .int .i64 0], .int .i64 0]) ?_ rfl ?_
  · simp [results, Try.results47, go_sem, m0, m1]
  · exact ⟨rfl, EF.wa, EF.fr, EF.ch⟩
set_option maxRecDepth 100000 in
set_option maxHeartbeats 3200000 in
theorem one_add (w : World) (B bW bT bL bF a b c i : Nat) (n : Int) (f : Fr) (s : St) (ha : a ≤ 15) (hb : b ≤ 15) (hc : c ≤ 15) (hW : WAt B bW bT bL s w) (hF : FrAt bF f w) (hB : B ≤ bF) :
    Calls Try.prog 47 #[.pointer (some ⟨bW, 0, none⟩), .agg #[.int .i64 3, .int .i64 a, .int .i64 b, .int .i64 c, .int .i64 n], .int .i64 i, .pointer (some ⟨bF, 0, none⟩)] w
      (OnePost w B bW bT bL bF 1 (-1) 0 0 (f.set a (wrap64 (f.R b + f.R c))) s) := by
  have a0 : (0 : Int) ≤ (a : Int) := by omega
  have a1 : (a : Int) < 16 := by omega
  have b0 : (0 : Int) ≤ (b : Int) := by omega
  have b1 : (b : Int) < 16 := by omega
  have c0 : (0 : Int) ≤ (c : Int) := by omega
  have c1 : (c : Int) < 16 := by omega
  have E0 := Lib.hid (Env.start hW hF hB [.int .i64 3, .int .i64 a, .int .i64 b, .int .i64 c, .int .i64 n])
  clear hW hF
  go_enter Try.func47, Try.ntmps47
  go_wp2_with fail
  obtain ⟨y, hy⟩ : ∃ y, y = (((w.alloc (.cells #[.int .i64 3, .int .i64 a, .int .i64 b, .int .i64 c, .int .i64 n] 95)).alloc (.cells #[.int .i64 0, .int .i64 0] 40)).alloc (.cells #[.int .i64 (-1), .int .i64 0] 40)) := ⟨_, rfl⟩
  rw [← hy] at E0 ⊢
  clear hy
  have k0 := E0.out.x5.cell 0 _ rfl
  have k1 := E0.out.x5.cell 1 _ rfl
  have k2 := E0.out.x5.cell 2 _ rfl
  have k3 := E0.out.x5.cell 3 _ rfl
  have k4 := E0.out.x5.cell 4 _ rfl
  have r_a := E0.out.fr.get (k := a) (by omega)
  have r_b := E0.out.fr.get (k := b) (by omega)
  have r_c := E0.out.fr.get (k := c) (by omega)
  have fzF := fun k => E0.out.fr.fz k
  go_region
  have E1 := Lib.hid ((E0.out.setR a (wrap64 (f.R b + f.R c))).drew)
  obtain ⟨z, hz⟩ : ∃ z, z = (y.setCell ⟨bF, 1 + a, none⟩ (.int .i64 (wrap64 (f.R b + f.R c)))).drew := ⟨_, rfl⟩
  rw [← hz] at E1 ⊢
  clear hz E0
  clear k0 k1 k2 k3 k4 fzF r_a r_b r_c
  obtain ⟨p9, q9, h9⟩ := E1.out.x9
  have m0 := h9.cell 0 _ rfl
  have m1 := h9.cell 1 _ rfl
  have mf := fun i => h9.ty.frozen i
  have r0 := E1.out.x11.cell 0 _ rfl
  have r1 := E1.out.x11.cell 1 _ rfl
  clear h9
  go_wp2_with fail
  go_region
  go_wp2_with fail
  have EF := (E1.out.set9 (-1) 0).drew
  refine bodyPost_ret (v := .tuple #[.int .i64 1, .agg #[.int .i64 (-1), .int .i64 0], .int .i64 0]) ?_ rfl ?_
  · simp [results, Try.results47, go_sem, m0, m1]
  · exact ⟨rfl, EF.wa, EF.fr, EF.ch⟩
set_option maxRecDepth 100000 in
set_option maxHeartbeats 3200000 in
theorem one_addi (w : World) (B bW bT bL bF a b c i : Nat) (n : Int) (f : Fr) (s : St) (ha : a ≤ 15) (hb : b ≤ 15) (hc : c ≤ 15) (hW : WAt B bW bT bL s w) (hF : FrAt bF f w) (hB : B ≤ bF) :
    Calls Try.prog 47 #[.pointer (some ⟨bW, 0, none⟩), .agg #[.int .i64 4, .int .i64 a, .int .i64 b, .int .i64 c, .int .i64 n], .int .i64 i, .pointer (some ⟨bF, 0, none⟩)] w
      (OnePost w B bW bT bL bF 1 (-1) 0 0 (f.set a (wrap64 (f.R b + n))) s) := by
  have a0 : (0 : Int) ≤ (a : Int) := by omega
  have a1 : (a : Int) < 16 := by omega
  have b0 : (0 : Int) ≤ (b : Int) := by omega
  have b1 : (b : Int) < 16 := by omega
  have c0 : (0 : Int) ≤ (c : Int) := by omega
  have c1 : (c : Int) < 16 := by omega
  have E0 := Lib.hid (Env.start hW hF hB [.int .i64 4, .int .i64 a, .int .i64 b, .int .i64 c, .int .i64 n])
  clear hW hF
  go_enter Try.func47, Try.ntmps47
  go_wp2_with fail
  obtain ⟨y, hy⟩ : ∃ y, y = (((w.alloc (.cells #[.int .i64 4, .int .i64 a, .int .i64 b, .int .i64 c, .int .i64 n] 95)).alloc (.cells #[.int .i64 0, .int .i64 0] 40)).alloc (.cells #[.int .i64 (-1), .int .i64 0] 40)) := ⟨_, rfl⟩
  rw [← hy] at E0 ⊢
  clear hy
  have k0 := E0.out.x5.cell 0 _ rfl
  have k1 := E0.out.x5.cell 1 _ rfl
  have k2 := E0.out.x5.cell 2 _ rfl
  have k3 := E0.out.x5.cell 3 _ rfl
  have k4 := E0.out.x5.cell 4 _ rfl
  have r_a := E0.out.fr.get (k := a) (by omega)
  have r_b := E0.out.fr.get (k := b) (by omega)
  have fzF := fun k => E0.out.fr.fz k
  go_region
  have E1 := Lib.hid ((E0.out.setR a (wrap64 (f.R b + n))).drew)
  obtain ⟨z, hz⟩ : ∃ z, z = (y.setCell ⟨bF, 1 + a, none⟩ (.int .i64 (wrap64 (f.R b + n)))).drew := ⟨_, rfl⟩
  rw [← hz] at E1 ⊢
  clear hz E0
  clear k0 k1 k2 k3 k4 fzF r_a r_b
  obtain ⟨p9, q9, h9⟩ := E1.out.x9
  have m0 := h9.cell 0 _ rfl
  have m1 := h9.cell 1 _ rfl
  have mf := fun i => h9.ty.frozen i
  have r0 := E1.out.x11.cell 0 _ rfl
  have r1 := E1.out.x11.cell 1 _ rfl
  clear h9
  go_wp2_with fail
  go_region
  go_wp2_with fail
  have EF := (E1.out.set9 (-1) 0).drew
  refine bodyPost_ret (v := .tuple #[.int .i64 1, .agg #[.int .i64 (-1), .int .i64 0], .int .i64 0]) ?_ rfl ?_
  · simp [results, Try.results47, go_sem, m0, m1]
  · exact ⟨rfl, EF.wa, EF.fr, EF.ch⟩
set_option maxRecDepth 100000 in
set_option maxHeartbeats 3200000 in
theorem one_self (w : World) (B bW bT bL bF a b c i : Nat) (n : Int) (f : Fr) (s : St) (ha : a ≤ 15) (hb : b ≤ 15) (hc : c ≤ 15) (hW : WAt B bW bT bL s w) (hF : FrAt bF f w) (hB : B ≤ bF) :
    Calls Try.prog 47 #[.pointer (some ⟨bW, 0, none⟩), .agg #[.int .i64 17, .int .i64 a, .int .i64 b, .int .i64 c, .int .i64 n], .int .i64 i, .pointer (some ⟨bF, 0, none⟩)] w
      (OnePost w B bW bT bL bF 1 (-1) 0 0 (f.set a ((i : Int))) s) := by
  have a0 : (0 : Int) ≤ (a : Int) := by omega
  have a1 : (a : Int) < 16 := by omega
  have b0 : (0 : Int) ≤ (b : Int) := by omega
  have b1 : (b : Int) < 16 := by omega
  have c0 : (0 : Int) ≤ (c : Int) := by omega
  have c1 : (c : Int) < 16 := by omega
  have E0 := Lib.hid (Env.start hW hF hB [.int .i64 17, .int .i64 a, .int .i64 b, .int .i64 c, .int .i64 n])
  clear hW hF
  go_enter Try.func47, Try.ntmps47
  go_wp2_with fail
  obtain ⟨y, hy⟩ : ∃ y, y = (((w.alloc (.cells #[.int .i64 17, .int .i64 a, .int .i64 b, .int .i64 c, .int .i64 n] 95)).alloc (.cells #[.int .i64 0, .int .i64 0] 40)).alloc (.cells #[.int .i64 (-1), .int .i64 0] 40)) := ⟨_, rfl⟩
  rw [← hy] at E0 ⊢
  clear hy
  have k0 := E0.out.x5.cell 0 _ rfl
  have k1 := E0.out.x5.cell 1 _ rfl
  have k2 := E0.out.x5.cell 2 _ rfl
  have k3 := E0.out.x5.cell 3 _ rfl
  have k4 := E0.out.x5.cell 4 _ rfl
  have r_a := E0.out.fr.get (k := a) (by omega)
  have fzF := fun k => E0.out.fr.fz k
  go_region
  have E1 := Lib.hid ((E0.out.setR a ((i : Int))).drew)
  obtain ⟨z, hz⟩ : ∃ z, z = (y.setCell ⟨bF, 1 + a, none⟩ (.int .i64 ((i : Int)))).drew := ⟨_, rfl⟩
  rw [← hz] at E1 ⊢
  clear hz E0
  clear k0 k1 k2 k3 k4 fzF r_a
  obtain ⟨p9, q9, h9⟩ := E1.out.x9
  have m0 := h9.cell 0 _ rfl
  have m1 := h9.cell 1 _ rfl
  have mf := fun i => h9.ty.frozen i
  have r0 := E1.out.x11.cell 0 _ rfl
  have r1 := E1.out.x11.cell 1 _ rfl
  clear h9
  go_wp2_with fail
  go_region
  go_wp2_with fail
  have EF := (E1.out.set9 (-1) 0).drew
  refine bodyPost_ret (v := .tuple #[.int .i64 1, .agg #[.int .i64 (-1), .int .i64 0], .int .i64 0]) ?_ rfl ?_
  · simp [results, Try.results47, go_sem, m0, m1]
  · exact ⟨rfl, EF.wa, EF.fr, EF.ch⟩
set_option maxRecDepth 100000 in
set_option maxHeartbeats 3200000 in
theorem one_now (w : World) (B bW bT bL bF a b c i : Nat) (n : Int) (f : Fr) (s : St) (ha : a ≤ 15) (hb : b ≤ 15) (hc : c ≤ 15) (hW : WAt B bW bT bL s w) (hF : FrAt bF f w) (hB : B ≤ bF) :
    Calls Try.prog 47 #[.pointer (some ⟨bW, 0, none⟩), .agg #[.int .i64 18, .int .i64 a, .int .i64 b, .int .i64 c, .int .i64 n], .int .i64 i, .pointer (some ⟨bF, 0, none⟩)] w
      (OnePost w B bW bT bL bF 1 (-1) 0 0 (f.set a s.now) s) := by
  have a0 : (0 : Int) ≤ (a : Int) := by omega
  have a1 : (a : Int) < 16 := by omega
  have b0 : (0 : Int) ≤ (b : Int) := by omega
  have b1 : (b : Int) < 16 := by omega
  have c0 : (0 : Int) ≤ (c : Int) := by omega
  have c1 : (c : Int) < 16 := by omega
  have E0 := Lib.hid (Env.start hW hF hB [.int .i64 18, .int .i64 a, .int .i64 b, .int .i64 c, .int .i64 n])
  clear hW hF
  go_enter Try.func47, Try.ntmps47
  go_wp2_with fail
  obtain ⟨y, hy⟩ : ∃ y, y = (((w.alloc (.cells #[.int .i64 18, .int .i64 a, .int .i64 b, .int .i64 c, .int .i64 n] 95)).alloc (.cells #[.int .i64 0, .int .i64 0] 40)).alloc (.cells #[.int .i64 (-1), .int .i64 0] 40)) := ⟨_, rfl⟩
  rw [← hy] at E0 ⊢
  clear hy
  have k0 := E0.out.x5.cell 0 _ rfl
  have k1 := E0.out.x5.cell 1 _ rfl
  have k2 := E0.out.x5.cell 2 _ rfl
  have k3 := E0.out.x5.cell 3 _ rfl
  have k4 := E0.out.x5.cell 4 _ rfl
  have r_a := E0.out.fr.get (k := a) (by omega)
  have fzF := fun k => E0.out.fr.fz k
  have w2 := E0.out.wa.cT
  have w3 := E0.out.wa.cN
  go_region
  have E1 := Lib.hid ((E0.out.setR a s.now).drew)
  obtain ⟨z, hz⟩ : ∃ z, z = (y.setCell ⟨bF, 1 + a, none⟩ (.int .i64 s.now)).drew := ⟨_, rfl⟩
  rw [← hz] at E1 ⊢
  clear hz E0
  clear k0 k1 k2 k3 k4 fzF r_a
  obtain ⟨p9, q9, h9⟩ := E1.out.x9
  have m0 := h9.cell 0 _ rfl
  have m1 := h9.cell 1 _ rfl
  have mf := fun i => h9.ty.frozen i
  have r0 := E1.out.x11.cell 0 _ rfl
  have r1 := E1.out.x11.cell 1 _ rfl
  clear h9
  go_wp2_with fail
  go_region
  go_wp2_with fail
  have EF := (E1.out.set9 (-1) 0).drew
  refine bodyPost_ret (v := .tuple #[.int .i64 1, .agg #[.int .i64 (-1), .int .i64 0], .int .i64 0]) ?_ rfl ?_
  · simp [results, Try.results47, go_sem, m0, m1]
  · exact ⟨rfl, EF.wa, EF.fr, EF.ch⟩
set_option maxRecDepth 100000 in
set_option maxHeartbeats 3200000 in
theorem one_jmp (w : World) (B bW bT bL bF a b c i : Nat) (n : Int) (f : Fr) (s : St) (ha : a ≤ 15) (hb : b ≤ 15) (hc : c ≤ 15) (hW : WAt B bW bT bL s w) (hF : FrAt bF f w) (hB : B ≤ bF) :
    Calls Try.prog 47 #[.pointer (some ⟨bW, 0, none⟩), .agg #[.int .i64 8, .int .i64 a, .int .i64 b, .int .i64 c, .int .i64 n], .int .i64 i, .pointer (some ⟨bF, 0, none⟩)] w
      (OnePost w B bW bT bL bF 2 (-1) 0 0 { f with at_ := n } s) := by
  have a0 : (0 : Int) ≤ (a : Int) := by omega
  have a1 : (a : Int) < 16 := by omega
  have b0 : (0 : Int) ≤ (b : Int) := by omega
  have b1 : (b : Int) < 16 := by omega
  have c0 : (0 : Int) ≤ (c : Int) := by omega
  have c1 : (c : Int) < 16 := by omega
  have E0 := Lib.hid (Env.start hW hF hB [.int .i64 8, .int .i64 a, .int .i64 b, .int .i64 c, .int .i64 n])
  clear hW hF
  have hlo := E0.out.lo
  have f0 := E0.out.fr.at0
  have fz0 := E0.out.fr.fz 0
  go_enter Try.func47, Try.ntmps47
  go_wp2_with fail
  have E1 := Lib.hid (E0.out.setAt n)
  obtain ⟨z, hz⟩ : ∃ z, z = ((((w.alloc (.cells #[.int .i64 8, .int .i64 a, .int .i64 b, .int .i64 c, .int .i64 n] 95)).alloc (.cells #[.int .i64 0, .int .i64 0] 40)).alloc (.cells #[.int .i64 (-1), .int .i64 0] 40)).setCell ⟨bF, 0, none⟩ (.int .i64 n)) := ⟨_, rfl⟩
  rw [← hz] at E1 ⊢
  clear hz E0 f0 fz0
  obtain ⟨p9, q9, h9⟩ := E1.out.x9
  have m0 := h9.cell 0 _ rfl
  have m1 := h9.cell 1 _ rfl
  have mf := fun i => h9.ty.frozen i
  have r0 := E1.out.x11.cell 0 _ rfl
  have r1 := E1.out.x11.cell 1 _ rfl
  clear h9
  go_wp2_with fail
  go_region
  go_wp2_with fail
  have EF := (E1.out.set9 (-1) 0).drew
  refine bodyPost_ret (v := .tuple #[.int .i64 2, .agg #[.int .i64 (-1), .int .i64 0], .int .i64 0]) ?_ rfl ?_
  · simp [results, Try.results47, go_sem, m0, m1]
  · exact ⟨rfl, EF.wa, EF.fr, EF.ch⟩
end Go.Proofs.Ytegjkheecbmioaa
