/- The walks of the reference's 'one', instruction by instruction. -/
import Derived.Test.YtegjkheecbmioaaOneC
import Derived.Test.YtegjkheecbmioaaMix
namespace Go.Proofs.Ytegjkheecbmioaa
open Go.RowKit
set_option linter.unusedVariables false
set_option linter.unusedSimpArgs false
set_option maxRecDepth 100000 in
set_option maxHeartbeats 3200000 in
theorem one_ld (w : World) (B bW bT bL bF a b c i : Nat) (n : Int) (f : Fr) (s : St) (ha : a ≤ 15) (hb : b ≤ 15) (hc : c ≤ 15) (hW : WAt B bW bT bL s w) (hF : FrAt bF f w) (hB : B ≤ bF) (k : Nat) (x : Int) (hat : wrap64 (f.R b + n) = (k : Int) + 1) (hx : s.cells[k]? = some x) (hsl : s.cells.length ≤ 100000) :
    Calls Try.prog 47 #[.pointer (some ⟨bW, 0, none⟩), .agg #[.int .i64 5, .int .i64 a, .int .i64 b, .int .i64 c, .int .i64 n], .int .i64 i, .pointer (some ⟨bF, 0, none⟩)] w
      (OnePost w B bW bT bL bF 1 (-1) 0 0 (f.set a x) s) := by
  have a0 : (0 : Int) ≤ (a : Int) := by omega
  have a1 : (a : Int) < 16 := by omega
  have b0 : (0 : Int) ≤ (b : Int) := by omega
  have b1 : (b : Int) < 16 := by omega
  have c0 : (0 : Int) ≤ (c : Int) := by omega
  have c1 : (c : Int) < 16 := by omega
  have E0 := Lib.hid (Env.start hW hF hB [.int .i64 5, .int .i64 a, .int .i64 b, .int .i64 c, .int .i64 n])
  clear hW hF
  have hk : k < s.cells.length := (List.getElem?_eq_some_iff.1 hx).1
  have HXC := Lib.hid hx
  clear hx
  go_enter Try.func47, Try.ntmps47
  go_wp2_with fail
  obtain ⟨y, hy⟩ : ∃ y, y = (((w.alloc (.cells #[.int .i64 5, .int .i64 a, .int .i64 b, .int .i64 c, .int .i64 n] 95)).alloc (.cells #[.int .i64 0, .int .i64 0] 40)).alloc (.cells #[.int .i64 (-1), .int .i64 0] 40)) := ⟨_, rfl⟩
  rw [← hy] at E0 ⊢
  clear hy
  have k0 := E0.out.x5.cell 0 _ rfl
  have k1 := E0.out.x5.cell 1 _ rfl
  have k2 := E0.out.x5.cell 2 _ rfl
  have k3 := E0.out.x5.cell 3 _ rfl
  have k4 := E0.out.x5.cell 4 _ rfl
  have r_a := E0.out.fr.get (k := a) (by omega)
  have r_b := E0.out.fr.get (k := b) (by omega)
  have fzF := fun k => E0.out.fr.fz k
  go_quiet (fail)
  have E1 := Lib.hid (E0.out.drewN nq)
  obtain ⟨y2, hz⟩ : ∃ z, z = (y.drewN nq) := ⟨_, rfl⟩
  rw [← hz] at E1 ⊢
  clear hz E0
  clear k0 k1 k2 k3 k4 fzF r_a r_b
  have k0 := E1.out.x5.cell 0 _ rfl
  have k1 := E1.out.x5.cell 1 _ rfl
  have k2 := E1.out.x5.cell 2 _ rfl
  have k3 := E1.out.x5.cell 3 _ rfl
  have k4 := E1.out.x5.cell 4 _ rfl
  have r_a := E1.out.fr.get (k := a) (by omega)
  have r_b := E1.out.fr.get (k := b) (by omega)
  have fzF := fun k => E1.out.fr.fz k
  have HIN := Lib.hid (in_calls y2 B bW bT bL k s E1.out.wa hk hsl)
  obtain ⟨g, cap, g0, g1, g2, g3, g4⟩ := E1.out.wa.c0 hk
  have g5 := g4 k x HXC.out
  have g6 := g2.frozen k
  have kk0 : (0 : Int) ≤ (k : Int) := by omega
  have kk1 : (k : Int) < (s.cells.length : Int) := by omega
  clear g4
  go_wp2_with (go_at_call 55; refine HIN.out.mono ?_; rintro e w' ⟨rfl, rfl⟩)
  go_region
  have E2 := Lib.hid ((E1.out.setR a x).drew)
  obtain ⟨z, hz⟩ : ∃ z, z = (y2.setCell ⟨bF, 1 + a, none⟩ (.int .i64 x)).drew := ⟨_, rfl⟩
  rw [← hz] at E2 ⊢
  clear hz E1
  clear k0 k1 k2 k3 k4 fzF r_a r_b
  clear g0 g2 g5 g6
  obtain ⟨p9, q9, h9⟩ := E2.out.x9
  have m0 := h9.cell 0 _ rfl
  have m1 := h9.cell 1 _ rfl
  have mf := fun i => h9.ty.frozen i
  have r0 := E2.out.x11.cell 0 _ rfl
  have r1 := E2.out.x11.cell 1 _ rfl
  clear h9
  go_wp2_with fail
  go_region
  go_wp2_with fail
  have EF := (E2.out.set9 (-1) 0).drew
  refine bodyPost_ret (v := .tuple #[.int .i64 1, .agg #[.int .i64 (-1), .int .i64 0], .int .i64 0]) ?_ rfl ?_
  · simp [results, Try.results47, go_sem, m0, m1]
  · exact ⟨rfl, EF.wa, EF.fr, EF.ch⟩
set_option maxRecDepth 100000 in
set_option maxHeartbeats 3200000 in
theorem one_st (w : World) (B bW bT bL bF a b c i : Nat) (n : Int) (f : Fr) (s : St) (ha : a ≤ 15) (hb : b ≤ 15) (hc : c ≤ 15) (hW : WAt B bW bT bL s w) (hF : FrAt bF f w) (hB : B ≤ bF) (k : Nat) (x : Int) (hat : wrap64 (f.R b + n) = (k : Int) + 1) (hx : s.cells[k]? = some x) (hsl : s.cells.length ≤ 100000) :
    Calls Try.prog 47 #[.pointer (some ⟨bW, 0, none⟩), .agg #[.int .i64 6, .int .i64 a, .int .i64 b, .int .i64 c, .int .i64 n], .int .i64 i, .pointer (some ⟨bF, 0, none⟩)] w
      (OnePost w B bW bT bL bF 1 (-1) 0 0 f { s with cells := s.cells.set k (f.R a) }) := by
  have a0 : (0 : Int) ≤ (a : Int) := by omega
  have a1 : (a : Int) < 16 := by omega
  have b0 : (0 : Int) ≤ (b : Int) := by omega
  have b1 : (b : Int) < 16 := by omega
  have c0 : (0 : Int) ≤ (c : Int) := by omega
  have c1 : (c : Int) < 16 := by omega
  have E0 := Lib.hid (Env.start hW hF hB [.int .i64 6, .int .i64 a, .int .i64 b, .int .i64 c, .int .i64 n])
  clear hW hF
  have hk : k < s.cells.length := (List.getElem?_eq_some_iff.1 hx).1
  have HXC := Lib.hid hx
  clear hx
  go_enter Try.func47, Try.ntmps47
  go_wp2_with fail
  obtain ⟨y, hy⟩ : ∃ y, y = (((w.alloc (.cells #[.int .i64 6, .int .i64 a, .int .i64 b, .int .i64 c, .int .i64 n] 95)).alloc (.cells #[.int .i64 0, .int .i64 0] 40)).alloc (.cells #[.int .i64 (-1), .int .i64 0] 40)) := ⟨_, rfl⟩
  rw [← hy] at E0 ⊢
  clear hy
  have k0 := E0.out.x5.cell 0 _ rfl
  have k1 := E0.out.x5.cell 1 _ rfl
  have k2 := E0.out.x5.cell 2 _ rfl
  have k3 := E0.out.x5.cell 3 _ rfl
  have k4 := E0.out.x5.cell 4 _ rfl
  have r_a := E0.out.fr.get (k := a) (by omega)
  have r_b := E0.out.fr.get (k := b) (by omega)
  have fzF := fun k => E0.out.fr.fz k
  go_quiet (fail)
  have E1 := Lib.hid (E0.out.drewN nq)
  obtain ⟨y2, hz⟩ : ∃ z, z = (y.drewN nq) := ⟨_, rfl⟩
  rw [← hz] at E1 ⊢
  clear hz E0
  clear k0 k1 k2 k3 k4 fzF r_a r_b
  have k0 := E1.out.x5.cell 0 _ rfl
  have k1 := E1.out.x5.cell 1 _ rfl
  have k2 := E1.out.x5.cell 2 _ rfl
  have k3 := E1.out.x5.cell 3 _ rfl
  have k4 := E1.out.x5.cell 4 _ rfl
  have r_a := E1.out.fr.get (k := a) (by omega)
  have r_b := E1.out.fr.get (k := b) (by omega)
  have fzF := fun k => E1.out.fr.fz k
  have HIN := Lib.hid (in_calls y2 B bW bT bL k s E1.out.wa hk hsl)
  obtain ⟨g, cap, g0, g1, g2, g3, g4⟩ := E1.out.wa.c0 hk
  have g5 := g4 k x HXC.out
  have g6 := g2.frozen k
  have kk0 : (0 : Int) ≤ (k : Int) := by omega
  have kk1 : (k : Int) < (s.cells.length : Int) := by omega
  clear g4
  go_wp2_with (go_at_call 55; refine HIN.out.mono ?_; rintro e w' ⟨rfl, rfl⟩)
  go_region
  have E2 := Lib.hid ((E1.out.setC (k := k) (u := f.R a) g0).drew)
  obtain ⟨z, hz⟩ : ∃ z, z = (y2.setCell ⟨g, k, none⟩ (.int .i64 (f.R a))).drew := ⟨_, rfl⟩
  rw [← hz] at E2 ⊢
  clear hz E1
  clear k0 k1 k2 k3 k4 fzF r_a r_b
  clear g0 g2 g5 g6
  obtain ⟨p9, q9, h9⟩ := E2.out.x9
  have m0 := h9.cell 0 _ rfl
  have m1 := h9.cell 1 _ rfl
  have mf := fun i => h9.ty.frozen i
  have r0 := E2.out.x11.cell 0 _ rfl
  have r1 := E2.out.x11.cell 1 _ rfl
  clear h9
  go_wp2_with fail
  go_region
  go_wp2_with fail
  have EF := (E2.out.set9 (-1) 0).drew
  refine bodyPost_ret (v := .tuple #[.int .i64 1, .agg #[.int .i64 (-1), .int .i64 0], .int .i64 0]) ?_ rfl ?_
  · simp [results, Try.results47, go_sem, m0, m1]
  · exact ⟨rfl, EF.wa, EF.fr, EF.ch⟩
set_option maxRecDepth 100000 in
set_option maxHeartbeats 3200000 in
theorem one_cas_yes (w : World) (B bW bT bL bF a b c i : Nat) (n : Int) (f : Fr) (s : St) (ha : a ≤ 15) (hb : b ≤ 15) (hc : c ≤ 15) (hW : WAt B bW bT bL s w) (hF : FrAt bF f w) (hB : B ≤ bF) (k : Nat) (x : Int) (hat : wrap64 (f.R b + n) = (k : Int) + 1) (hx : s.cells[k]? = some x) (hsl : s.cells.length ≤ 100000) (hq : x = f.R a) (ha3 : a ≤ 13) :
    Calls Try.prog 47 #[.pointer (some ⟨bW, 0, none⟩), .agg #[.int .i64 7, .int .i64 a, .int .i64 b, .int .i64 c, .int .i64 n], .int .i64 i, .pointer (some ⟨bF, 0, none⟩)] w
      (OnePost w B bW bT bL bF 1 (-1) 0 0 (f.set (a + 2) 1) { s with cells := s.cells.set k (f.R (a + 1)) }) := by
  have a0 : (0 : Int) ≤ (a : Int) := by omega
  have a1 : (a : Int) < 16 := by omega
  have b0 : (0 : Int) ≤ (b : Int) := by omega
  have b1 : (b : Int) < 16 := by omega
  have c0 : (0 : Int) ≤ (c : Int) := by omega
  have c1 : (c : Int) < 16 := by omega
  have E0 := Lib.hid (Env.start hW hF hB [.int .i64 7, .int .i64 a, .int .i64 b, .int .i64 c, .int .i64 n])
  clear hW hF
  have hk : k < s.cells.length := (List.getElem?_eq_some_iff.1 hx).1
  have HXC := Lib.hid hx
  clear hx
  have dq : (x == f.R a) = true := by simpa using hq
  clear hq
  go_enter Try.func47, Try.ntmps47
  go_wp2_with fail
  obtain ⟨y, hy⟩ : ∃ y, y = (((w.alloc (.cells #[.int .i64 7, .int .i64 a, .int .i64 b, .int .i64 c, .int .i64 n] 95)).alloc (.cells #[.int .i64 0, .int .i64 0] 40)).alloc (.cells #[.int .i64 (-1), .int .i64 0] 40)) := ⟨_, rfl⟩
  rw [← hy] at E0 ⊢
  clear hy
  have k0 := E0.out.x5.cell 0 _ rfl
  have k1 := E0.out.x5.cell 1 _ rfl
  have k2 := E0.out.x5.cell 2 _ rfl
  have k3 := E0.out.x5.cell 3 _ rfl
  have k4 := E0.out.x5.cell 4 _ rfl
  have r_a := E0.out.fr.get (k := a) (by omega)
  have r_b := E0.out.fr.get (k := b) (by omega)
  have fzF := fun k => E0.out.fr.fz k
  go_quiet (fail)
  have E1 := Lib.hid (E0.out.drewN nq)
  obtain ⟨y2, hz⟩ : ∃ z, z = (y.drewN nq) := ⟨_, rfl⟩
  rw [← hz] at E1 ⊢
  clear hz E0
  clear k0 k1 k2 k3 k4 fzF r_a r_b
  have k0 := E1.out.x5.cell 0 _ rfl
  have k1 := E1.out.x5.cell 1 _ rfl
  have k2 := E1.out.x5.cell 2 _ rfl
  have k3 := E1.out.x5.cell 3 _ rfl
  have k4 := E1.out.x5.cell 4 _ rfl
  have r_a := E1.out.fr.get (k := a) (by omega)
  have r_b := E1.out.fr.get (k := b) (by omega)
  have fzF := fun k => E1.out.fr.fz k
  have HIN := Lib.hid (in_calls y2 B bW bT bL k s E1.out.wa hk hsl)
  obtain ⟨g, cap, g0, g1, g2, g3, g4⟩ := E1.out.wa.c0 hk
  have g5 := g4 k x HXC.out
  have g6 := g2.frozen k
  have kk0 : (0 : Int) ≤ (k : Int) := by omega
  have kk1 : (k : Int) < (s.cells.length : Int) := by omega
  clear g4
  go_wp2_with (go_at_call 55; refine HIN.out.mono ?_; rintro e w' ⟨rfl, rfl⟩)
  go_quiet (fail)
  have E2 := Lib.hid (E1.out.drewN nq)
  obtain ⟨y3, hz⟩ : ∃ z, z = (y2.drewN nq) := ⟨_, rfl⟩
  rw [← hz] at E2 ⊢
  clear hz E1
  clear k0 k1 k2 k3 k4 fzF r_a r_b
  clear g0 g2 g5 g6 HIN
  have k0 := E2.out.x5.cell 0 _ rfl
  have k1 := E2.out.x5.cell 1 _ rfl
  have k2 := E2.out.x5.cell 2 _ rfl
  have k3 := E2.out.x5.cell 3 _ rfl
  have k4 := E2.out.x5.cell 4 _ rfl
  have r_a := E2.out.fr.get (k := a) (by omega)
  have r_b := E2.out.fr.get (k := b) (by omega)
  have fzF := fun k => E2.out.fr.fz k
  have r_a1 := E2.out.fr.get (k := a + 1) (by omega)
  have r_a2 := E2.out.fr.get (k := a + 2) (by omega)
  obtain ⟨g, cap, g0, g1, g2, g3, g4⟩ := E2.out.wa.c0 hk
  have g5 := g4 k x HXC.out
  have g6 := g2.frozen k
  clear g4
  have ap0 : (0 : Int) ≤ (a : Int) + 1 := by omega
  have ap1 : ((a : Int) + 1).toNat = a + 1 := by omega
  have ap2 : (a : Int) + 1 < 16 := by omega
  have ap3 : IntKind.i64.wrap ((a : Int) + 1) = (a : Int) + 1 := i64_small (by omega) (by omega)
  go_wp2_with fail
  go_region
  clear ap0 ap1 ap2 ap3
  have E3 := Lib.hid ((E2.out.setC (k := k) (u := f.R (a + 1)) g0).drew)
  obtain ⟨y4, hz⟩ : ∃ z, z = (y3.setCell ⟨g, k, none⟩ (.int .i64 (f.R (a + 1)))).drew := ⟨_, rfl⟩
  rw [← hz] at E3 ⊢
  clear hz E2
  clear k0 k1 k2 k3 k4 fzF r_a r_b
  clear g0 g2 g5 g6 r_a1 r_a2
  have k0 := E3.out.x5.cell 0 _ rfl
  have k1 := E3.out.x5.cell 1 _ rfl
  have k2 := E3.out.x5.cell 2 _ rfl
  have k3 := E3.out.x5.cell 3 _ rfl
  have k4 := E3.out.x5.cell 4 _ rfl
  have r_a := E3.out.fr.get (k := a) (by omega)
  have r_b := E3.out.fr.get (k := b) (by omega)
  have fzF := fun k => E3.out.fr.fz k
  have r_a2 := E3.out.fr.get (k := a + 2) (by omega)
  have ap0 : (0 : Int) ≤ (a : Int) + 2 := by omega
  have ap1 : ((a : Int) + 2).toNat = a + 2 := by omega
  have ap2 : (a : Int) + 2 < 16 := by omega
  have ap3 : IntKind.i64.wrap ((a : Int) + 2) = (a : Int) + 2 := i64_small (by omega) (by omega)
  go_wp2_with fail
  go_region
  clear ap0 ap1 ap2 ap3
  have E4 := Lib.hid ((E3.out.setR (a + 2) 1).drew)
  obtain ⟨z, hz⟩ : ∃ z, z = (y4.setCell ⟨bF, 1 + (a + 2), none⟩ (.int .i64 1)).drew := ⟨_, rfl⟩
  rw [← hz] at E4 ⊢
  clear hz E3
  clear k0 k1 k2 k3 k4 fzF r_a r_b
  clear r_a2
  obtain ⟨p9, q9, h9⟩ := E4.out.x9
  have m0 := h9.cell 0 _ rfl
  have m1 := h9.cell 1 _ rfl
  have mf := fun i => h9.ty.frozen i
  have r0 := E4.out.x11.cell 0 _ rfl
  have r1 := E4.out.x11.cell 1 _ rfl
  clear h9
  go_wp2_with fail
  go_region
  go_wp2_with fail
  have EF := (E4.out.set9 (-1) 0).drew
  refine bodyPost_ret (v := .tuple #[.int .i64 1, .agg #[.int .i64 (-1), .int .i64 0], .int .i64 0]) ?_ rfl ?_
  · simp [results, Try.results47, go_sem, m0, m1]
  · exact ⟨rfl, EF.wa, EF.fr, EF.ch⟩
set_option maxRecDepth 100000 in
set_option maxHeartbeats 3200000 in
theorem one_cas_no (w : World) (B bW bT bL bF a b c i : Nat) (n : Int) (f : Fr) (s : St) (ha : a ≤ 15) (hb : b ≤ 15) (hc : c ≤ 15) (hW : WAt B bW bT bL s w) (hF : FrAt bF f w) (hB : B ≤ bF) (k : Nat) (x : Int) (hat : wrap64 (f.R b + n) = (k : Int) + 1) (hx : s.cells[k]? = some x) (hsl : s.cells.length ≤ 100000) (hq : ¬ x = f.R a) (ha3 : a ≤ 13) :
    Calls Try.prog 47 #[.pointer (some ⟨bW, 0, none⟩), .agg #[.int .i64 7, .int .i64 a, .int .i64 b, .int .i64 c, .int .i64 n], .int .i64 i, .pointer (some ⟨bF, 0, none⟩)] w
      (OnePost w B bW bT bL bF 1 (-1) 0 0 (f.set (a + 2) 0) s) := by
  have a0 : (0 : Int) ≤ (a : Int) := by omega
  have a1 : (a : Int) < 16 := by omega
  have b0 : (0 : Int) ≤ (b : Int) := by omega
  have b1 : (b : Int) < 16 := by omega
  have c0 : (0 : Int) ≤ (c : Int) := by omega
  have c1 : (c : Int) < 16 := by omega
  have E0 := Lib.hid (Env.start hW hF hB [.int .i64 7, .int .i64 a, .int .i64 b, .int .i64 c, .int .i64 n])
  clear hW hF
  have hk : k < s.cells.length := (List.getElem?_eq_some_iff.1 hx).1
  have HXC := Lib.hid hx
  clear hx
  have dq : (x == f.R a) = false := by simpa using hq
  clear hq
  go_enter Try.func47, Try.ntmps47
  go_wp2_with fail
  obtain ⟨y, hy⟩ : ∃ y, y = (((w.alloc (.cells #[.int .i64 7, .int .i64 a, .int .i64 b, .int .i64 c, .int .i64 n] 95)).alloc (.cells #[.int .i64 0, .int .i64 0] 40)).alloc (.cells #[.int .i64 (-1), .int .i64 0] 40)) := ⟨_, rfl⟩
  rw [← hy] at E0 ⊢
  clear hy
  have k0 := E0.out.x5.cell 0 _ rfl
  have k1 := E0.out.x5.cell 1 _ rfl
  have k2 := E0.out.x5.cell 2 _ rfl
  have k3 := E0.out.x5.cell 3 _ rfl
  have k4 := E0.out.x5.cell 4 _ rfl
  have r_a := E0.out.fr.get (k := a) (by omega)
  have r_b := E0.out.fr.get (k := b) (by omega)
  have fzF := fun k => E0.out.fr.fz k
  go_quiet (fail)
  have E1 := Lib.hid (E0.out.drewN nq)
  obtain ⟨y2, hz⟩ : ∃ z, z = (y.drewN nq) := ⟨_, rfl⟩
  rw [← hz] at E1 ⊢
  clear hz E0
  clear k0 k1 k2 k3 k4 fzF r_a r_b
  have k0 := E1.out.x5.cell 0 _ rfl
  have k1 := E1.out.x5.cell 1 _ rfl
  have k2 := E1.out.x5.cell 2 _ rfl
  have k3 := E1.out.x5.cell 3 _ rfl
  have k4 := E1.out.x5.cell 4 _ rfl
  have r_a := E1.out.fr.get (k := a) (by omega)
  have r_b := E1.out.fr.get (k := b) (by omega)
  have fzF := fun k => E1.out.fr.fz k
  have HIN := Lib.hid (in_calls y2 B bW bT bL k s E1.out.wa hk hsl)
  obtain ⟨g, cap, g0, g1, g2, g3, g4⟩ := E1.out.wa.c0 hk
  have g5 := g4 k x HXC.out
  have g6 := g2.frozen k
  have kk0 : (0 : Int) ≤ (k : Int) := by omega
  have kk1 : (k : Int) < (s.cells.length : Int) := by omega
  clear g4
  go_wp2_with (go_at_call 55; refine HIN.out.mono ?_; rintro e w' ⟨rfl, rfl⟩)
  go_quiet (fail)
  have E2 := Lib.hid (E1.out.drewN nq)
  obtain ⟨y3, hz⟩ : ∃ z, z = (y2.drewN nq) := ⟨_, rfl⟩
  rw [← hz] at E2 ⊢
  clear hz E1
  clear k0 k1 k2 k3 k4 fzF r_a r_b
  clear g0 g2 g5 g6 HIN
  have k0 := E2.out.x5.cell 0 _ rfl
  have k1 := E2.out.x5.cell 1 _ rfl
  have k2 := E2.out.x5.cell 2 _ rfl
  have k3 := E2.out.x5.cell 3 _ rfl
  have k4 := E2.out.x5.cell 4 _ rfl
  have r_a := E2.out.fr.get (k := a) (by omega)
  have r_b := E2.out.fr.get (k := b) (by omega)
  have fzF := fun k => E2.out.fr.fz k
  have r_a2 := E2.out.fr.get (k := a + 2) (by omega)
  have ap0 : (0 : Int) ≤ (a : Int) + 2 := by omega
  have ap1 : ((a : Int) + 2).toNat = a + 2 := by omega
  have ap2 : (a : Int) + 2 < 16 := by omega
  have ap3 : IntKind.i64.wrap ((a : Int) + 2) = (a : Int) + 2 := i64_small (by omega) (by omega)
  go_wp2_with fail
  go_region
  clear ap0 ap1 ap2 ap3
  have E4 := Lib.hid ((E2.out.setR (a + 2) 0).drew)
  obtain ⟨z, hz⟩ : ∃ z, z = (y3.setCell ⟨bF, 1 + (a + 2), none⟩ (.int .i64 0)).drew := ⟨_, rfl⟩
  rw [← hz] at E4 ⊢
  clear hz E2
  clear k0 k1 k2 k3 k4 fzF r_a r_b
  clear r_a2
  obtain ⟨p9, q9, h9⟩ := E4.out.x9
  have m0 := h9.cell 0 _ rfl
  have m1 := h9.cell 1 _ rfl
  have mf := fun i => h9.ty.frozen i
  have r0 := E4.out.x11.cell 0 _ rfl
  have r1 := E4.out.x11.cell 1 _ rfl
  clear h9
  go_wp2_with fail
  go_region
  go_wp2_with fail
  have EF := (E4.out.set9 (-1) 0).drew
  refine bodyPost_ret (v := .tuple #[.int .i64 1, .agg #[.int .i64 (-1), .int .i64 0], .int .i64 0]) ?_ rfl ?_
  · simp [results, Try.results47, go_sem, m0, m1]
  · exact ⟨rfl, EF.wa, EF.fr, EF.ch⟩
end Go.Proofs.Ytegjkheecbmioaa
