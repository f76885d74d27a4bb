/- The walks of the reference's 'one', instruction by instruction. -/
import Derived.Test.YtegjkheecbmioaaOneC
import Derived.Test.YtegjkheecbmioaaMix
namespace Go.Proofs.Ytegjkheecbmioaa
open Go.RowKit
set_option linter.unusedVariables false
set_option linter.unusedSimpArgs false
set_option maxRecDepth 100000 in
set_option maxHeartbeats 3200000 in
theorem one_jeq_yes (w : World) (B bW bT bL bF a b c i : Nat) (n : Int) (f : Fr) (s : St) (ha : a ≤ 15) (hb : b ≤ 15) (hc : c ≤ 15) (hW : WAt B bW bT bL s w) (hF : FrAt bF f w) (hB : B ≤ bF) (hq : (f.R a = f.R b)) :
    Calls Try.prog 47 #[.pointer (some ⟨bW, 0, none⟩), .agg #[.int .i64 9, .int .i64 a, .int .i64 b, .int .i64 c, .int .i64 n], .int .i64 i, .pointer (some ⟨bF, 0, none⟩)] w
      (OnePost w B bW bT bL bF 2 (-1) 0 0 { f with at_ := n } s) := by
  have a0 : (0 : Int) ≤ (a : Int) := by omega
  have a1 : (a : Int) < 16 := by omega
  have b0 : (0 : Int) ≤ (b : Int) := by omega
  have b1 : (b : Int) < 16 := by omega
  have c0 : (0 : Int) ≤ (c : Int) := by omega
  have c1 : (c : Int) < 16 := by omega
  have E0 := Lib.hid (Env.start hW hF hB [.int .i64 9, .int .i64 a, .int .i64 b, .int .i64 c, .int .i64 n])
  clear hW hF
  have dq : (f.R a == f.R b) = true := by simpa using hq
  clear hq
  go_enter Try.func47, Try.ntmps47
  go_wp2_with fail
  obtain ⟨y, hy⟩ : ∃ y, y = (((w.alloc (.cells #[.int .i64 9, .int .i64 a, .int .i64 b, .int .i64 c, .int .i64 n] 95)).alloc (.cells #[.int .i64 0, .int .i64 0] 40)).alloc (.cells #[.int .i64 (-1), .int .i64 0] 40)) := ⟨_, rfl⟩
  rw [← hy] at E0 ⊢
  clear hy
  have k0 := E0.out.x5.cell 0 _ rfl
  have k1 := E0.out.x5.cell 1 _ rfl
  have k2 := E0.out.x5.cell 2 _ rfl
  have k3 := E0.out.x5.cell 3 _ rfl
  have k4 := E0.out.x5.cell 4 _ rfl
  have r_a := E0.out.fr.get (k := a) (by omega)
  have r_b := E0.out.fr.get (k := b) (by omega)
  have fzF := fun k => E0.out.fr.fz k
  go_quiet (fail)
  have E1 := Lib.hid (E0.out.drewN nq)
  obtain ⟨y2, hz⟩ : ∃ z, z = (y.drewN nq) := ⟨_, rfl⟩
  rw [← hz] at E1 ⊢
  clear hz E0
  clear k0 k1 k2 k3 k4 fzF r_a r_b
  have k0 := E1.out.x5.cell 0 _ rfl
  have k1 := E1.out.x5.cell 1 _ rfl
  have k2 := E1.out.x5.cell 2 _ rfl
  have k3 := E1.out.x5.cell 3 _ rfl
  have k4 := E1.out.x5.cell 4 _ rfl
  have r_a := E1.out.fr.get (k := a) (by omega)
  have r_b := E1.out.fr.get (k := b) (by omega)
  have fzF := fun k => E1.out.fr.fz k
  go_wp2_with fail
  go_quiet (fail)
  have E2 := Lib.hid (E1.out.drewN nq)
  obtain ⟨y3, hz⟩ : ∃ z, z = (y2.drewN nq) := ⟨_, rfl⟩
  rw [← hz] at E2 ⊢
  clear hz E1
  clear k0 k1 k2 k3 k4 fzF r_a r_b
  have k0 := E2.out.x5.cell 0 _ rfl
  have k1 := E2.out.x5.cell 1 _ rfl
  have k2 := E2.out.x5.cell 2 _ rfl
  have k3 := E2.out.x5.cell 3 _ rfl
  have k4 := E2.out.x5.cell 4 _ rfl
  have r_a := E2.out.fr.get (k := a) (by omega)
  have r_b := E2.out.fr.get (k := b) (by omega)
  have fzF := fun k => E2.out.fr.fz k
  have hlo := E2.out.lo
  have f0 := E2.out.fr.at0
  go_wp2_with fail
  have E3 := Lib.hid (E2.out.setAt n)
  obtain ⟨z, hz⟩ : ∃ z, z = (y3.setCell ⟨bF, 0, none⟩ (.int .i64 n)) := ⟨_, rfl⟩
  rw [← hz] at E3 ⊢
  clear hz E2
  clear k0 k1 k2 k3 k4 fzF r_a r_b
  clear f0
  obtain ⟨p9, q9, h9⟩ := E3.out.x9
  have m0 := h9.cell 0 _ rfl
  have m1 := h9.cell 1 _ rfl
  have mf := fun i => h9.ty.frozen i
  have r0 := E3.out.x11.cell 0 _ rfl
  have r1 := E3.out.x11.cell 1 _ rfl
  clear h9
  go_wp2_with fail
  go_region
  go_wp2_with fail
  have EF := (E3.out.set9 (-1) 0).drew
  refine bodyPost_ret (v := .tuple #[.int .i64 2, .agg #[.int .i64 (-1), .int .i64 0], .int .i64 0]) ?_ rfl ?_
  · simp [results, Try.results47, go_sem, m0, m1]
  · exact ⟨rfl, EF.wa, EF.fr, EF.ch⟩
set_option maxRecDepth 100000 in
set_option maxHeartbeats 3200000 in
theorem one_jeq_no (w : World) (B bW bT bL bF a b c i : Nat) (n : Int) (f : Fr) (s : St) (ha : a ≤ 15) (hb : b ≤ 15) (hc : c ≤ 15) (hW : WAt B bW bT bL s w) (hF : FrAt bF f w) (hB : B ≤ bF) (hq : ¬ (f.R a = f.R b)) :
    Calls Try.prog 47 #[.pointer (some ⟨bW, 0, none⟩), .agg #[.int .i64 9, .int .i64 a, .int .i64 b, .int .i64 c, .int .i64 n], .int .i64 i, .pointer (some ⟨bF, 0, none⟩)] w
      (OnePost w B bW bT bL bF 1 (-1) 0 0 f s) := by
  have a0 : (0 : Int) ≤ (a : Int) := by omega
  have a1 : (a : Int) < 16 := by omega
  have b0 : (0 : Int) ≤ (b : Int) := by omega
  have b1 : (b : Int) < 16 := by omega
  have c0 : (0 : Int) ≤ (c : Int) := by omega
  have c1 : (c : Int) < 16 := by omega
  have E0 := Lib.hid (Env.start hW hF hB [.int .i64 9, .int .i64 a, .int .i64 b, .int .i64 c, .int .i64 n])
  clear hW hF
  have dq : (f.R a == f.R b) = false := by simpa using hq
  clear hq
  go_enter Try.func47, Try.ntmps47
  go_wp2_with fail
  obtain ⟨y, hy⟩ : ∃ y, y = (((w.alloc (.cells #[.int .i64 9, .int .i64 a, .int .i64 b, .int .i64 c, .int .i64 n] 95)).alloc (.cells #[.int .i64 0, .int .i64 0] 40)).alloc (.cells #[.int .i64 (-1), .int .i64 0] 40)) := ⟨_, rfl⟩
  rw [← hy] at E0 ⊢
  clear hy
  have k0 := E0.out.x5.cell 0 _ rfl
  have k1 := E0.out.x5.cell 1 _ rfl
  have k2 := E0.out.x5.cell 2 _ rfl
  have k3 := E0.out.x5.cell 3 _ rfl
  have k4 := E0.out.x5.cell 4 _ rfl
  have r_a := E0.out.fr.get (k := a) (by omega)
  have r_b := E0.out.fr.get (k := b) (by omega)
  have fzF := fun k => E0.out.fr.fz k
  go_quiet (fail)
  have E1 := Lib.hid (E0.out.drewN nq)
  obtain ⟨y2, hz⟩ : ∃ z, z = (y.drewN nq) := ⟨_, rfl⟩
  rw [← hz] at E1 ⊢
  clear hz E0
  clear k0 k1 k2 k3 k4 fzF r_a r_b
  have k0 := E1.out.x5.cell 0 _ rfl
  have k1 := E1.out.x5.cell 1 _ rfl
  have k2 := E1.out.x5.cell 2 _ rfl
  have k3 := E1.out.x5.cell 3 _ rfl
  have k4 := E1.out.x5.cell 4 _ rfl
  have r_a := E1.out.fr.get (k := a) (by omega)
  have r_b := E1.out.fr.get (k := b) (by omega)
  have fzF := fun k => E1.out.fr.fz k
  go_wp2_with fail
  go_quiet (fail)
  have E2 := Lib.hid (E1.out.drewN nq)
  obtain ⟨y3, hz⟩ : ∃ z, z = (y2.drewN nq) := ⟨_, rfl⟩
  rw [← hz] at E2 ⊢
  clear hz E1
  clear k0 k1 k2 k3 k4 fzF r_a r_b
  have k0 := E2.out.x5.cell 0 _ rfl
  have k1 := E2.out.x5.cell 1 _ rfl
  have k2 := E2.out.x5.cell 2 _ rfl
  have k3 := E2.out.x5.cell 3 _ rfl
  have k4 := E2.out.x5.cell 4 _ rfl
  have r_a := E2.out.fr.get (k := a) (by omega)
  have r_b := E2.out.fr.get (k := b) (by omega)
  have fzF := fun k => E2.out.fr.fz k
  go_wp2_with fail
  clear k0 k1 k2 k3 k4 fzF r_a r_b
  obtain ⟨p9, q9, h9⟩ := E2.out.x9
  have m0 := h9.cell 0 _ rfl
  have m1 := h9.cell 1 _ rfl
  have mf := fun i => h9.ty.frozen i
  have r0 := E2.out.x11.cell 0 _ rfl
  have r1 := E2.out.x11.cell 1 _ rfl
  clear h9
  go_wp2_with fail
  go_region
  go_wp2_with fail
  have EF := (E2.out.set9 (-1) 0).drew
  refine bodyPost_ret (v := .tuple #[.int .i64 1, .agg #[.int .i64 (-1), .int .i64 0], .int .i64 0]) ?_ rfl ?_
  · simp [results, Try.results47, go_sem, m0, m1]
  · exact ⟨rfl, EF.wa, EF.fr, EF.ch⟩
set_option maxRecDepth 100000 in
set_option maxHeartbeats 3200000 in
theorem one_jne_yes (w : World) (B bW bT bL bF a b c i : Nat) (n : Int) (f : Fr) (s : St) (ha : a ≤ 15) (hb : b ≤ 15) (hc : c ≤ 15) (hW : WAt B bW bT bL s w) (hF : FrAt bF f w) (hB : B ≤ bF) (hq : (f.R a ≠ f.R b)) :
    Calls Try.prog 47 #[.pointer (some ⟨bW, 0, none⟩), .agg #[.int .i64 10, .int .i64 a, .int .i64 b, .int .i64 c, .int .i64 n], .int .i64 i, .pointer (some ⟨bF, 0, none⟩)] w
      (OnePost w B bW bT bL bF 2 (-1) 0 0 { f with at_ := n } s) := by
  have a0 : (0 : Int) ≤ (a : Int) := by omega
  have a1 : (a : Int) < 16 := by omega
  have b0 : (0 : Int) ≤ (b : Int) := by omega
  have b1 : (b : Int) < 16 := by omega
  have c0 : (0 : Int) ≤ (c : Int) := by omega
  have c1 : (c : Int) < 16 := by omega
  have E0 := Lib.hid (Env.start hW hF hB [.int .i64 10, .int .i64 a, .int .i64 b, .int .i64 c, .int .i64 n])
  clear hW hF
  have dq : (f.R a != f.R b) = true := by simpa using hq
  have dq2 : (f.R a == f.R b) = false := by simpa using hq
  clear hq
  go_enter Try.func47, Try.ntmps47
  go_wp2_with fail
  obtain ⟨y, hy⟩ : ∃ y, y = (((w.alloc (.cells #[.int .i64 10, .int .i64 a, .int .i64 b, .int .i64 c, .int .i64 n] 95)).alloc (.cells #[.int .i64 0, .int .i64 0] 40)).alloc (.cells #[.int .i64 (-1), .int .i64 0] 40)) := ⟨_, rfl⟩
  rw [← hy] at E0 ⊢
  clear hy
  have k0 := E0.out.x5.cell 0 _ rfl
  have k1 := E0.out.x5.cell 1 _ rfl
  have k2 := E0.out.x5.cell 2 _ rfl
  have k3 := E0.out.x5.cell 3 _ rfl
  have k4 := E0.out.x5.cell 4 _ rfl
  have r_a := E0.out.fr.get (k := a) (by omega)
  have r_b := E0.out.fr.get (k := b) (by omega)
  have fzF := fun k => E0.out.fr.fz k
  go_quiet (fail)
  have E1 := Lib.hid (E0.out.drewN nq)
  obtain ⟨y2, hz⟩ : ∃ z, z = (y.drewN nq) := ⟨_, rfl⟩
  rw [← hz] at E1 ⊢
  clear hz E0
  clear k0 k1 k2 k3 k4 fzF r_a r_b
  have k0 := E1.out.x5.cell 0 _ rfl
  have k1 := E1.out.x5.cell 1 _ rfl
  have k2 := E1.out.x5.cell 2 _ rfl
  have k3 := E1.out.x5.cell 3 _ rfl
  have k4 := E1.out.x5.cell 4 _ rfl
  have r_a := E1.out.fr.get (k := a) (by omega)
  have r_b := E1.out.fr.get (k := b) (by omega)
  have fzF := fun k => E1.out.fr.fz k
  go_wp2_with fail
  go_quiet (fail)
  have E2 := Lib.hid (E1.out.drewN nq)
  obtain ⟨y3, hz⟩ : ∃ z, z = (y2.drewN nq) := ⟨_, rfl⟩
  rw [← hz] at E2 ⊢
  clear hz E1
  clear k0 k1 k2 k3 k4 fzF r_a r_b
  have k0 := E2.out.x5.cell 0 _ rfl
  have k1 := E2.out.x5.cell 1 _ rfl
  have k2 := E2.out.x5.cell 2 _ rfl
  have k3 := E2.out.x5.cell 3 _ rfl
  have k4 := E2.out.x5.cell 4 _ rfl
  have r_a := E2.out.fr.get (k := a) (by omega)
  have r_b := E2.out.fr.get (k := b) (by omega)
  have fzF := fun k => E2.out.fr.fz k
  have hlo := E2.out.lo
  have f0 := E2.out.fr.at0
  go_wp2_with fail
  have E3 := Lib.hid (E2.out.setAt n)
  obtain ⟨z, hz⟩ : ∃ z, z = (y3.setCell ⟨bF, 0, none⟩ (.int .i64 n)) := ⟨_, rfl⟩
  rw [← hz] at E3 ⊢
  clear hz E2
  clear k0 k1 k2 k3 k4 fzF r_a r_b
  clear f0
  obtain ⟨p9, q9, h9⟩ := E3.out.x9
  have m0 := h9.cell 0 _ rfl
  have m1 := h9.cell 1 _ rfl
  have mf := fun i => h9.ty.frozen i
  have r0 := E3.out.x11.cell 0 _ rfl
  have r1 := E3.out.x11.cell 1 _ rfl
  clear h9
  go_wp2_with fail
  go_region
  go_wp2_with fail
  have EF := (E3.out.set9 (-1) 0).drew
  refine bodyPost_ret (v := .tuple #[.int .i64 2, .agg #[.int .i64 (-1), .int .i64 0], .int .i64 0]) ?_ rfl ?_
  · simp [results, Try.results47, go_sem, m0, m1]
  · exact ⟨rfl, EF.wa, EF.fr, EF.ch⟩
set_option maxRecDepth 100000 in
set_option maxHeartbeats 3200000 in
theorem one_jne_no (w : World) (B bW bT bL bF a b c i : Nat) (n : Int) (f : Fr) (s : St) (ha : a ≤ 15) (hb : b ≤ 15) (hc : c ≤ 15) (hW : WAt B bW bT bL s w) (hF : FrAt bF f w) (hB : B ≤ bF) (hq : ¬ (f.R a ≠ f.R b)) :
    Calls Try.prog 47 #[.pointer (some ⟨bW, 0, none⟩), .agg #[.int .i64 10, .int .i64 a, .int .i64 b, .int .i64 c, .int .i64 n], .int .i64 i, .pointer (some ⟨bF, 0, none⟩)] w
      (OnePost w B bW bT bL bF 1 (-1) 0 0 f s) := by
  have a0 : (0 : Int) ≤ (a : Int) := by omega
  have a1 : (a : Int) < 16 := by omega
  have b0 : (0 : Int) ≤ (b : Int) := by omega
  have b1 : (b : Int) < 16 := by omega
  have c0 : (0 : Int) ≤ (c : Int) := by omega
  have c1 : (c : Int) < 16 := by omega
  have E0 := Lib.hid (Env.start hW hF hB [.int .i64 10, .int .i64 a, .int .i64 b, .int .i64 c, .int .i64 n])
  clear hW hF
  have dq : (f.R a != f.R b) = false := by simpa using hq
  have dq2 : (f.R a == f.R b) = true := by simpa using hq
  clear hq
  go_enter Try.func47, Try.ntmps47
  go_wp2_with fail
  obtain ⟨y, hy⟩ : ∃ y, y = (((w.alloc (.cells #[.int .i64 10, .int .i64 a, .int .i64 b, .int .i64 c, .int .i64 n] 95)).alloc (.cells #[.int .i64 0, .int .i64 0] 40)).alloc (.cells #[.int .i64 (-1), .int .i64 0] 40)) := ⟨_, rfl⟩
  rw [← hy] at E0 ⊢
  clear hy
  have k0 := E0.out.x5.cell 0 _ rfl
  have k1 := E0.out.x5.cell 1 _ rfl
  have k2 := E0.out.x5.cell 2 _ rfl
  have k3 := E0.out.x5.cell 3 _ rfl
  have k4 := E0.out.x5.cell 4 _ rfl
  have r_a := E0.out.fr.get (k := a) (by omega)
  have r_b := E0.out.fr.get (k := b) (by omega)
  have fzF := fun k => E0.out.fr.fz k
  go_quiet (fail)
  have E1 := Lib.hid (E0.out.drewN nq)
  obtain ⟨y2, hz⟩ : ∃ z, z = (y.drewN nq) := ⟨_, rfl⟩
  rw [← hz] at E1 ⊢
  clear hz E0
  clear k0 k1 k2 k3 k4 fzF r_a r_b
  have k0 := E1.out.x5.cell 0 _ rfl
  have k1 := E1.out.x5.cell 1 _ rfl
  have k2 := E1.out.x5.cell 2 _ rfl
  have k3 := E1.out.x5.cell 3 _ rfl
  have k4 := E1.out.x5.cell 4 _ rfl
  have r_a := E1.out.fr.get (k := a) (by omega)
  have r_b := E1.out.fr.get (k := b) (by omega)
  have fzF := fun k => E1.out.fr.fz k
  go_wp2_with fail
  go_quiet (fail)
  have E2 := Lib.hid (E1.out.drewN nq)
  obtain ⟨y3, hz⟩ : ∃ z, z = (y2.drewN nq) := ⟨_, rfl⟩
  rw [← hz] at E2 ⊢
  clear hz E1
  clear k0 k1 k2 k3 k4 fzF r_a r_b
  have k0 := E2.out.x5.cell 0 _ rfl
  have k1 := E2.out.x5.cell 1 _ rfl
  have k2 := E2.out.x5.cell 2 _ rfl
  have k3 := E2.out.x5.cell 3 _ rfl
  have k4 := E2.out.x5.cell 4 _ rfl
  have r_a := E2.out.fr.get (k := a) (by omega)
  have r_b := E2.out.fr.get (k := b) (by omega)
  have fzF := fun k => E2.out.fr.fz k
  go_wp2_with fail
  clear k0 k1 k2 k3 k4 fzF r_a r_b
  obtain ⟨p9, q9, h9⟩ := E2.out.x9
  have m0 := h9.cell 0 _ rfl
  have m1 := h9.cell 1 _ rfl
  have mf := fun i => h9.ty.frozen i
  have r0 := E2.out.x11.cell 0 _ rfl
  have r1 := E2.out.x11.cell 1 _ rfl
  clear h9
  go_wp2_with fail
  go_region
  go_wp2_with fail
  have EF := (E2.out.set9 (-1) 0).drew
  refine bodyPost_ret (v := .tuple #[.int .i64 1, .agg #[.int .i64 (-1), .int .i64 0], .int .i64 0]) ?_ rfl ?_
  · simp [results, Try.results47, go_sem, m0, m1]
  · exact ⟨rfl, EF.wa, EF.fr, EF.ch⟩
set_option maxRecDepth 100000 in
set_option maxHeartbeats 3200000 in
theorem one_jlt_yes (w : World) (B bW bT bL bF a b c i : Nat) (n : Int) (f : Fr) (s : St) (ha : a ≤ 15) (hb : b ≤ 15) (hc : c ≤ 15) (hW : WAt B bW bT bL s w) (hF : FrAt bF f w) (hB : B ≤ bF) (hq : (f.R a < f.R b)) :
    Calls Try.prog 47 #[.pointer (some ⟨bW, 0, none⟩), .agg #[.int .i64 11, .int .i64 a, .int .i64 b, .int .i64 c, .int .i64 n], .int .i64 i, .pointer (some ⟨bF, 0, none⟩)] w
      (OnePost w B bW bT bL bF 2 (-1) 0 0 { f with at_ := n } s) := by
  have a0 : (0 : Int) ≤ (a : Int) := by omega
  have a1 : (a : Int) < 16 := by omega
  have b0 : (0 : Int) ≤ (b : Int) := by omega
  have b1 : (b : Int) < 16 := by omega
  have c0 : (0 : Int) ≤ (c : Int) := by omega
  have c1 : (c : Int) < 16 := by omega
  have E0 := Lib.hid (Env.start hW hF hB [.int .i64 11, .int .i64 a, .int .i64 b, .int .i64 c, .int .i64 n])
  clear hW hF
  have dq : decide (f.R a < f.R b) = true := by simpa using hq
  clear hq
  go_enter Try.func47, Try.ntmps47
  go_wp2_with fail
  obtain ⟨y, hy⟩ : ∃ y, y = (((w.alloc (.cells #[.int .i64 11, .int .i64 a, .int .i64 b, .int .i64 c, .int .i64 n] 95)).alloc (.cells #[.int .i64 0, .int .i64 0] 40)).alloc (.cells #[.int .i64 (-1), .int .i64 0] 40)) := ⟨_, rfl⟩
  rw [← hy] at E0 ⊢
  clear hy
  have k0 := E0.out.x5.cell 0 _ rfl
  have k1 := E0.out.x5.cell 1 _ rfl
  have k2 := E0.out.x5.cell 2 _ rfl
  have k3 := E0.out.x5.cell 3 _ rfl
  have k4 := E0.out.x5.cell 4 _ rfl
  have r_a := E0.out.fr.get (k := a) (by omega)
  have r_b := E0.out.fr.get (k := b) (by omega)
  have fzF := fun k => E0.out.fr.fz k
  go_quiet (fail)
  have E1 := Lib.hid (E0.out.drewN nq)
  obtain ⟨y2, hz⟩ : ∃ z, z = (y.drewN nq) := ⟨_, rfl⟩
  rw [← hz] at E1 ⊢
  clear hz E0
  clear k0 k1 k2 k3 k4 fzF r_a r_b
  have k0 := E1.out.x5.cell 0 _ rfl
  have k1 := E1.out.x5.cell 1 _ rfl
  have k2 := E1.out.x5.cell 2 _ rfl
  have k3 := E1.out.x5.cell 3 _ rfl
  have k4 := E1.out.x5.cell 4 _ rfl
  have r_a := E1.out.fr.get (k := a) (by omega)
  have r_b := E1.out.fr.get (k := b) (by omega)
  have fzF := fun k => E1.out.fr.fz k
  go_wp2_with fail
  go_quiet (fail)
  have E2 := Lib.hid (E1.out.drewN nq)
  obtain ⟨y3, hz⟩ : ∃ z, z = (y2.drewN nq) := ⟨_, rfl⟩
  rw [← hz] at E2 ⊢
  clear hz E1
  clear k0 k1 k2 k3 k4 fzF r_a r_b
  have k0 := E2.out.x5.cell 0 _ rfl
  have k1 := E2.out.x5.cell 1 _ rfl
  have k2 := E2.out.x5.cell 2 _ rfl
  have k3 := E2.out.x5.cell 3 _ rfl
  have k4 := E2.out.x5.cell 4 _ rfl
  have r_a := E2.out.fr.get (k := a) (by omega)
  have r_b := E2.out.fr.get (k := b) (by omega)
  have fzF := fun k => E2.out.fr.fz k
  have hlo := E2.out.lo
  have f0 := E2.out.fr.at0
  go_wp2_with fail
  have E3 := Lib.hid (E2.out.setAt n)
  obtain ⟨z, hz⟩ : ∃ z, z = (y3.setCell ⟨bF, 0, none⟩ (.int .i64 n)) := ⟨_, rfl⟩
  rw [← hz] at E3 ⊢
  clear hz E2
  clear k0 k1 k2 k3 k4 fzF r_a r_b
  clear f0
  obtain ⟨p9, q9, h9⟩ := E3.out.x9
  have m0 := h9.cell 0 _ rfl
  have m1 := h9.cell 1 _ rfl
  have mf := fun i => h9.ty.frozen i
  have r0 := E3.out.x11.cell 0 _ rfl
  have r1 := E3.out.x11.cell 1 _ rfl
  clear h9
  go_wp2_with fail
  go_region
  go_wp2_with fail
  have EF := (E3.out.set9 (-1) 0).drew
  refine bodyPost_ret (v := .tuple #[.int .i64 2, .agg #[.int .i64 (-1), .int .i64 0], .int .i64 0]) ?_ rfl ?_
  · simp [results, Try.results47, go_sem, m0, m1]
  · exact ⟨rfl, EF.wa, EF.fr, EF.ch⟩
set_option maxRecDepth 100000 in
set_option maxHeartbeats 3200000 in
theorem one_jlt_no (w : World) (B bW bT bL bF a b c i : Nat) (n : Int) (f : Fr) (s : St) (ha : a ≤ 15) (hb : b ≤ 15) (hc : c ≤ 15) (hW : WAt B bW bT bL s w) (hF : FrAt bF f w) (hB : B ≤ bF) (hq : ¬ (f.R a < f.R b)) :
    Calls Try.prog 47 #[.pointer (some ⟨bW, 0, none⟩), .agg #[.int .i64 11, .int .i64 a, .int .i64 b, .int .i64 c, .int .i64 n], .int .i64 i, .pointer (some ⟨bF, 0, none⟩)] w
      (OnePost w B bW bT bL bF 1 (-1) 0 0 f s) := by
  have a0 : (0 : Int) ≤ (a : Int) := by omega
  have a1 : (a : Int) < 16 := by omega
  have b0 : (0 : Int) ≤ (b : Int) := by omega
  have b1 : (b : Int) < 16 := by omega
  have c0 : (0 : Int) ≤ (c : Int) := by omega
  have c1 : (c : Int) < 16 := by omega
  have E0 := Lib.hid (Env.start hW hF hB [.int .i64 11, .int .i64 a, .int .i64 b, .int .i64 c, .int .i64 n])
  clear hW hF
  have dq : decide (f.R a < f.R b) = false := by simpa using hq
  clear hq
  go_enter Try.func47, Try.ntmps47
  go_wp2_with fail
  obtain ⟨y, hy⟩ : ∃ y, y = (((w.alloc (.cells #[.int .i64 11, .int .i64 a, .int .i64 b, .int .i64 c, .int .i64 n] 95)).alloc (.cells #[.int .i64 0, .int .i64 0] 40)).alloc (.cells #[.int .i64 (-1), .int .i64 0] 40)) := ⟨_, rfl⟩
  rw [← hy] at E0 ⊢
  clear hy
  have k0 := E0.out.x5.cell 0 _ rfl
  have k1 := E0.out.x5.cell 1 _ rfl
  have k2 := E0.out.x5.cell 2 _ rfl
  have k3 := E0.out.x5.cell 3 _ rfl
  have k4 := E0.out.x5.cell 4 _ rfl
  have r_a := E0.out.fr.get (k := a) (by omega)
  have r_b := E0.out.fr.get (k := b) (by omega)
  have fzF := fun k => E0.out.fr.fz k
  go_quiet (fail)
  have E1 := Lib.hid (E0.out.drewN nq)
  obtain ⟨y2, hz⟩ : ∃ z, z = (y.drewN nq) := ⟨_, rfl⟩
  rw [← hz] at E1 ⊢
  clear hz E0
  clear k0 k1 k2 k3 k4 fzF r_a r_b
  have k0 := E1.out.x5.cell 0 _ rfl
  have k1 := E1.out.x5.cell 1 _ rfl
  have k2 := E1.out.x5.cell 2 _ rfl
  have k3 := E1.out.x5.cell 3 _ rfl
  have k4 := E1.out.x5.cell 4 _ rfl
  have r_a := E1.out.fr.get (k := a) (by omega)
  have r_b := E1.out.fr.get (k := b) (by omega)
  have fzF := fun k => E1.out.fr.fz k
  go_wp2_with fail
  go_quiet (fail)
  have E2 := Lib.hid (E1.out.drewN nq)
  obtain ⟨y3, hz⟩ : ∃ z, z = (y2.drewN nq) := ⟨_, rfl⟩
  rw [← hz] at E2 ⊢
  clear hz E1
  clear k0 k1 k2 k3 k4 fzF r_a r_b
  have k0 := E2.out.x5.cell 0 _ rfl
  have k1 := E2.out.x5.cell 1 _ rfl
  have k2 := E2.out.x5.cell 2 _ rfl
  have k3 := E2.out.x5.cell 3 _ rfl
  have k4 := E2.out.x5.cell 4 _ rfl
  have r_a := E2.out.fr.get (k := a) (by omega)
  have r_b := E2.out.fr.get (k := b) (by omega)
  have fzF := fun k => E2.out.fr.fz k
  go_wp2_with fail
  clear k0 k1 k2 k3 k4 fzF r_a r_b
  obtain ⟨p9, q9, h9⟩ := E2.out.x9
  have m0 := h9.cell 0 _ rfl
  have m1 := h9.cell 1 _ rfl
  have mf := fun i => h9.ty.frozen i
  have r0 := E2.out.x11.cell 0 _ rfl
  have r1 := E2.out.x11.cell 1 _ rfl
  clear h9
  go_wp2_with fail
  go_region
  go_wp2_with fail
  have EF := (E2.out.set9 (-1) 0).drew
  refine bodyPost_ret (v := .tuple #[.int .i64 1, .agg #[.int .i64 (-1), .int .i64 0], .int .i64 0]) ?_ rfl ?_
  · simp [results, Try.results47, go_sem, m0, m1]
  · exact ⟨rfl, EF.wa, EF.fr, EF.ch⟩
set_option maxRecDepth 100000 in
set_option maxHeartbeats 3200000 in
theorem one_mark (w : World) (B bW bT bL bF a b c i : Nat) (n : Int) (f : Fr) (s : St) (ha : a ≤ 15) (hb : b ≤ 15) (hc : c ≤ 15) (hW : WAt B bW bT bL s w) (hF : FrAt bF f w) (hB : B ≤ bF) :
    Calls Try.prog 47 #[.pointer (some ⟨bW, 0, none⟩), .agg #[.int .i64 21, .int .i64 a, .int .i64 b, .int .i64 c, .int .i64 n], .int .i64 i, .pointer (some ⟨bF, 0, none⟩)] w
      (OnePost w B bW bT bL bF 1 n (f.R a) 0 f s) := by
  have a0 : (0 : Int) ≤ (a : Int) := by omega
  have a1 : (a : Int) < 16 := by omega
  have b0 : (0 : Int) ≤ (b : Int) := by omega
  have b1 : (b : Int) < 16 := by omega
  have c0 : (0 : Int) ≤ (c : Int) := by omega
  have c1 : (c : Int) < 16 := by omega
  have E0 := Lib.hid (Env.start hW hF hB [.int .i64 21, .int .i64 a, .int .i64 b, .int .i64 c, .int .i64 n])
  clear hW hF
  go_enter Try.func47, Try.ntmps47
  go_wp2_with fail
  obtain ⟨y, hy⟩ : ∃ y, y = (((w.alloc (.cells #[.int .i64 21, .int .i64 a, .int .i64 b, .int .i64 c, .int .i64 n] 95)).alloc (.cells #[.int .i64 0, .int .i64 0] 40)).alloc (.cells #[.int .i64 (-1), .int .i64 0] 40)) := ⟨_, rfl⟩
  rw [← hy] at E0 ⊢
  clear hy
  have k0 := E0.out.x5.cell 0 _ rfl
  have k1 := E0.out.x5.cell 1 _ rfl
  have k2 := E0.out.x5.cell 2 _ rfl
  have k3 := E0.out.x5.cell 3 _ rfl
  have k4 := E0.out.x5.cell 4 _ rfl
  have r_a := E0.out.fr.get (k := a) (by omega)
  have fzF := fun k => E0.out.fr.fz k
  obtain ⟨p9, q9, h9⟩ := E0.out.x9
  have m0 := h9.cell 0 _ rfl
  have m1 := h9.cell 1 _ rfl
  have mf := fun i => h9.ty.frozen i
  clear h9
  go_region
  go_wp2_with fail
  have EF := (E0.out.set9 n (f.R a)).drew
  refine bodyPost_ret (v := .tuple #[.int .i64 1, .agg #[.int .i64 n, .int .i64 (f.R a)], .int .i64 0]) ?_ rfl ?_
  · simp [results, Try.results47, go_sem, m0, m1]
  · exact ⟨rfl, EF.wa, EF.fr, EF.ch⟩
set_option maxRecDepth 100000 in
set_option maxHeartbeats 3200000 in
theorem one_done (w : World) (B bW bT bL bF a b c i : Nat) (n : Int) (f : Fr) (s : St) (ha : a ≤ 15) (hb : b ≤ 15) (hc : c ≤ 15) (hW : WAt B bW bT bL s w) (hF : FrAt bF f w) (hB : B ≤ bF) :
    Calls Try.prog 47 #[.pointer (some ⟨bW, 0, none⟩), .agg #[.int .i64 22, .int .i64 a, .int .i64 b, .int .i64 c, .int .i64 n], .int .i64 i, .pointer (some ⟨bF, 0, none⟩)] w
      (OnePost w B bW bT bL bF 3 (-1) 0 2 f s) := by
  have a0 : (0 : Int) ≤ (a : Int) := by omega
  have a1 : (a : Int) < 16 := by omega
  have b0 : (0 : Int) ≤ (b : Int) := by omega
  have b1 : (b : Int) < 16 := by omega
  have c0 : (0 : Int) ≤ (c : Int) := by omega
  have c1 : (c : Int) < 16 := by omega
  have E0 := Lib.hid (Env.start hW hF hB [.int .i64 22, .int .i64 a, .int .i64 b, .int .i64 c, .int .i64 n])
  clear hW hF
  go_enter Try.func47, Try.ntmps47
  go_wp2_with fail
  obtain ⟨y, hy⟩ : ∃ y, y = (((w.alloc (.cells #[.int .i64 22, .int .i64 a, .int .i64 b, .int .i64 c, .int .i64 n] 95)).alloc (.cells #[.int .i64 0, .int .i64 0] 40)).alloc (.cells #[.int .i64 (-1), .int .i64 0] 40)) := ⟨_, rfl⟩
  rw [← hy] at E0 ⊢
  clear hy
  obtain ⟨p9, q9, h9⟩ := E0.out.x9
  have m0 := h9.cell 0 _ rfl
  have m1 := h9.cell 1 _ rfl
  have mf := fun i => h9.ty.frozen i
  have r0 := E0.out.x11.cell 0 _ rfl
  have r1 := E0.out.x11.cell 1 _ rfl
  clear h9
  go_wp2_with fail
  go_region
  go_wp2_with fail
  have EF := (E0.out.set9 (-1) 0).drew
  refine bodyPost_ret (v := .tuple #[.int .i64 3, .agg #[.int .i64 (-1), .int .i64 0], .int .i64 2]) ?_ rfl ?_
  · simp [results, Try.results47, go_sem, m0, m1]
  · exact ⟨rfl, EF.wa, EF.fr, EF.ch⟩
end Go.Proofs.Ytegjkheecbmioaa
