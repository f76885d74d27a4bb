/- The walks of the reference's 'one', instruction by instruction. -/
import Derived.Test.YtegjkheecbmioaaOneC
import Derived.Test.YtegjkheecbmioaaMix
namespace Go.Proofs.Ytegjkheecbmioaa
open Go.RowKit
set_option linter.unusedVariables false
set_option linter.unusedSimpArgs false
set_option maxRecDepth 100000 in
set_option maxHeartbeats 3200000 in
theorem one_intr (w : World) (B bW bT bL bF a b c i : Nat) (n : Int) (f : Fr) (s : St) (ha : a ≤ 15) (hb : b ≤ 15) (hc : c ≤ 15) (hW : WAt B bW bT bL s w) (hF : FrAt bF f w) (hB : B ≤ bF) (p : Prk) (hp : s.thr[i]? = some p) (hpf : p.flag = false) :
    Calls Try.prog 47 #[.pointer (some ⟨bW, 0, none⟩), .agg #[.int .i64 19, .int .i64 a, .int .i64 b, .int .i64 c, .int .i64 n], .int .i64 i, .pointer (some ⟨bF, 0, none⟩)] w
      (OnePost w B bW bT bL bF 1 (-1) 0 0 (f.set a 0) s) := by
  have a0 : (0 : Int) ≤ (a : Int) := by omega
  have a1 : (a : Int) < 16 := by omega
  have b0 : (0 : Int) ≤ (b : Int) := by omega
  have b1 : (b : Int) < 16 := by omega
  have c0 : (0 : Int) ≤ (c : Int) := by omega
  have c1 : (c : Int) < 16 := by omega
  have E0 := Lib.hid (Env.start hW hF hB [.int .i64 19, .int .i64 a, .int .i64 b, .int .i64 c, .int .i64 n])
  clear hW hF
  have hi : i < s.thr.length := (List.getElem?_eq_some_iff.1 hp).1
  have HP := Lib.hid hp
  have HPF := Lib.hid hpf
  have htl := E0.out.wa.tl
  clear hp hpf
  go_enter Try.func47, Try.ntmps47
  go_wp2_with fail
  obtain ⟨y, hy⟩ : ∃ y, y = (((w.alloc (.cells #[.int .i64 19, .int .i64 a, .int .i64 b, .int .i64 c, .int .i64 n] 95)).alloc (.cells #[.int .i64 0, .int .i64 0] 40)).alloc (.cells #[.int .i64 (-1), .int .i64 0] 40)) := ⟨_, rfl⟩
  rw [← hy] at E0 ⊢
  clear hy
  have k0 := E0.out.x5.cell 0 _ rfl
  have k1 := E0.out.x5.cell 1 _ rfl
  have k2 := E0.out.x5.cell 2 _ rfl
  have k3 := E0.out.x5.cell 3 _ rfl
  have k4 := E0.out.x5.cell 4 _ rfl
  have r_a := E0.out.fr.get (k := a) (by omega)
  have fzF := fun k => E0.out.fr.fz k
  go_region
  have E1 := Lib.hid ((E0.out.setR a 0).drew)
  obtain ⟨y2, hz⟩ : ∃ z, z = (y.setCell ⟨bF, 1 + a, none⟩ (.int .i64 0)).drew := ⟨_, rfl⟩
  rw [← hz] at E1 ⊢
  clear hz E0
  clear k0 k1 k2 k3 k4 fzF r_a
  have k0 := E1.out.x5.cell 0 _ rfl
  have k1 := E1.out.x5.cell 1 _ rfl
  have k2 := E1.out.x5.cell 2 _ rfl
  have k3 := E1.out.x5.cell 3 _ rfl
  have k4 := E1.out.x5.cell 4 _ rfl
  have r_a := E1.out.fr.get (k := a) (by omega)
  have fzF := fun k => E1.out.fr.fz k
  have w2 := E1.out.wa.cT
  have w3 := E1.out.wa.cL
  obtain ⟨_, t1, _, _⟩ := E1.out.wa.th i p HP.out
  rw [HPF.out] at t1
  have tf := fun k => E1.out.wa.tL.frozen k
  go_wp2_with fail
  have E2 := E1.out.setT (i := i) (p' := p) (j := 1) (u := .bool false) HP.out (.inr (.inl ⟨rfl, by rw [HPF.out], rfl⟩))
  have hss : s.thr.set i p = s.thr := by
    apply List.ext_getElem?
    intro k
    by_cases e : k = i
    · subst e; rw [List.getElem?_set_self hi, HP.out]
    · rw [List.getElem?_set_ne (Ne.symm e)]
  rw [hss] at E2
  have E2 := Lib.hid E2
  obtain ⟨z, hz⟩ : ∃ z, z = (y2.setCell ⟨bL, i * 4 + 1, none⟩ (.bool false)) := ⟨_, rfl⟩
  rw [← hz] at E2 ⊢
  clear hz E1 w2 w3 t1 tf
  clear k0 k1 k2 k3 k4 fzF r_a
  obtain ⟨p9, q9, h9⟩ := E2.out.x9
  have m0 := h9.cell 0 _ rfl
  have m1 := h9.cell 1 _ rfl
  have mf := fun i => h9.ty.frozen i
  have r0 := E2.out.x11.cell 0 _ rfl
  have r1 := E2.out.x11.cell 1 _ rfl
  clear h9
  go_wp2_with fail
  go_region
  go_wp2_with fail
  have EF := (E2.out.set9 (-1) 0).drew
  refine bodyPost_ret (v := .tuple #[.int .i64 1, .agg #[.int .i64 (-1), .int .i64 0], .int .i64 0]) ?_ rfl ?_
  · simp [results, Try.results47, go_sem, m0, m1]
  · exact ⟨rfl, EF.wa, EF.fr, EF.ch⟩
set_option maxRecDepth 100000 in
set_option maxHeartbeats 3200000 in
theorem one_alloc (w : World) (B bW bT bL bF a b c i : Nat) (n : Int) (f : Fr) (s : St) (ha : a ≤ 15) (hb : b ≤ 15) (hc : c ≤ 15) (hW : WAt B bW bT bL s w) (hF : FrAt bF f w) (hB : B ≤ bF) (m : Nat) (hm : 1 ≤ m) (hn : n = (m : Int)) (hml : m + s.cells.length ≤ 4096) (hc0 : 0 < s.cells.length) :
    Calls Try.prog 47 #[.pointer (some ⟨bW, 0, none⟩), .agg #[.int .i64 16, .int .i64 a, .int .i64 b, .int .i64 c, .int .i64 n], .int .i64 i, .pointer (some ⟨bF, 0, none⟩)] w
      (OnePost w B bW bT bL bF 1 (-1) 0 0 (f.set a ((s.cells.length : Int) + 1)) { s with cells := s.cells ++ List.replicate m 0 }) := by
  subst hn
  have a0 : (0 : Int) ≤ (a : Int) := by omega
  have a1 : (a : Int) < 16 := by omega
  have b0 : (0 : Int) ≤ (b : Int) := by omega
  have b1 : (b : Int) < 16 := by omega
  have c0 : (0 : Int) ≤ (c : Int) := by omega
  have c1 : (c : Int) < 16 := by omega
  have E0 := Lib.hid (Env.start hW hF hB [.int .i64 16, .int .i64 a, .int .i64 b, .int .i64 c, .int .i64 (m : Int)])
  clear hW hF
  go_enter Try.func47, Try.ntmps47
  go_wp2_with fail
  obtain ⟨y, hy⟩ : ∃ y, y = (((w.alloc (.cells #[.int .i64 16, .int .i64 a, .int .i64 b, .int .i64 c, .int .i64 (m : Int)] 95)).alloc (.cells #[.int .i64 0, .int .i64 0] 40)).alloc (.cells #[.int .i64 (-1), .int .i64 0] 40)) := ⟨_, rfl⟩
  rw [← hy] at E0 ⊢
  clear hy
  have k0 := E0.out.x5.cell 0 _ rfl
  have k1 := E0.out.x5.cell 1 _ rfl
  have k2 := E0.out.x5.cell 2 _ rfl
  have k3 := E0.out.x5.cell 3 _ rfl
  have k4 := E0.out.x5.cell 4 _ rfl
  have r_a := E0.out.fr.get (k := a) (by omega)
  have fzF := fun k => E0.out.fr.fz k
  have z5 := E0.out.x5.ty.lt
  refine Mix.region [0, 1, 2, 3, 4, 5, 7, 8] [6, 9, 10] 1 (fun w' => Bx w.heap.size 95 [.int .i64 16, .int .i64 a, .int .i64 b, .int .i64 c, .int .i64 (m : Int)] w') (by kernel_rfl) (by kernel_rfl) E0.out.x5.drew ?_
  repeat (apply Mix.step; (· rfl); (· intro w' hR V hV; have q1 := hR.cell 1 _ rfl; have q4 := hR.cell 4 _ rfl; go_simp; exact hV); intro K hK; go_simp; refine hK _ ?_; clear hK K)
  refine Mix.nil ?_
  simp only [Mix.Tail, Mix.pick, List.getElem?_cons_succ, List.getElem?_cons_zero]
  go_wp2_with fail
  refine (alloc_calls _ B bW bT bL m s E0.out.wa.drew hm hml hc0).mono ?_
  rintro e y2 ⟨rfl, hw2, hch⟩
  have E1 := Lib.hid (E0.out.drew.call hw2 hch)
  clear k0 k1 k2 k3 k4 fzF r_a
  clear hw2 hch
  go_wp2_with fail
  refine ⟨E1.out.x5, ?_⟩
  have k0 := E1.out.x5.cell 0 _ rfl
  have k1 := E1.out.x5.cell 1 _ rfl
  have k2 := E1.out.x5.cell 2 _ rfl
  have k3 := E1.out.x5.cell 3 _ rfl
  have k4 := E1.out.x5.cell 4 _ rfl
  have r_a := E1.out.fr.get (k := a) (by omega)
  have fzF := fun k => E1.out.fr.fz k
  go_wp2_with fail
  refine Mix.calm_end ?_
  have E2 := Lib.hid (E1.out.setR a ((s.cells.length : Int) + 1))
  obtain ⟨z, hz⟩ : ∃ z, z = (y2.setCell ⟨bF, 1 + a, none⟩ (.int .i64 ((s.cells.length : Int) + 1))) := ⟨_, rfl⟩
  rw [← hz] at E2 ⊢
  clear hz E0 E1
  clear k0 k1 k2 k3 k4 fzF r_a
  obtain ⟨p9, q9, h9⟩ := E2.out.x9
  have m0 := h9.cell 0 _ rfl
  have m1 := h9.cell 1 _ rfl
  have mf := fun i => h9.ty.frozen i
  have r0 := E2.out.x11.cell 0 _ rfl
  have r1 := E2.out.x11.cell 1 _ rfl
  clear h9
  go_wp2_with fail
  go_region
  go_wp2_with fail
  have EF := (E2.out.set9 (-1) 0).drew
  refine bodyPost_ret (v := .tuple #[.int .i64 1, .agg #[.int .i64 (-1), .int .i64 0], .int .i64 0]) ?_ rfl ?_
  · simp [results, Try.results47, go_sem, m0, m1]
  · exact ⟨rfl, EF.wa, EF.fr, EF.ch⟩
set_option maxRecDepth 100000 in
set_option maxHeartbeats 3200000 in
theorem one_unpark (w : World) (B bW bT bL bF a b c i : Nat) (n : Int) (f : Fr) (s : St) (ha : a ≤ 15) (hb : b ≤ 15) (hc : c ≤ 15) (hW : WAt B bW bT bL s w) (hF : FrAt bF f w) (hB : B ≤ bF) (j : Nat) (p : Prk) (hp : s.thr[j]? = some p) (hpb : p.blocked = true) (hra : f.R a = (j : Int)) :
    Calls Try.prog 47 #[.pointer (some ⟨bW, 0, none⟩), .agg #[.int .i64 15, .int .i64 a, .int .i64 b, .int .i64 c, .int .i64 n], .int .i64 i, .pointer (some ⟨bF, 0, none⟩)] w
      (OnePost w B bW bT bL bF 1 (-1) 0 0 f { s with thr := s.thr.set j { p with blocked := false, dl := 0 } }) := by
  have a0 : (0 : Int) ≤ (a : Int) := by omega
  have a1 : (a : Int) < 16 := by omega
  have b0 : (0 : Int) ≤ (b : Int) := by omega
  have b1 : (b : Int) < 16 := by omega
  have c0 : (0 : Int) ≤ (c : Int) := by omega
  have c1 : (c : Int) < 16 := by omega
  have E0 := Lib.hid (Env.start hW hF hB [.int .i64 15, .int .i64 a, .int .i64 b, .int .i64 c, .int .i64 n])
  clear hW hF
  have hj : j < s.thr.length := (List.getElem?_eq_some_iff.1 hp).1
  have HP := Lib.hid hp
  have htl := E0.out.wa.tl
  have d1 : decide ((j : Int) < 0) = false := decide_eq_false (by omega)
  have d2 : decide ((s.thr.length : Int) ≤ (j : Int)) = false := decide_eq_false (by omega)
  clear hp
  go_enter Try.func47, Try.ntmps47
  go_wp2_with fail
  obtain ⟨y, hy⟩ : ∃ y, y = (((w.alloc (.cells #[.int .i64 15, .int .i64 a, .int .i64 b, .int .i64 c, .int .i64 n] 95)).alloc (.cells #[.int .i64 0, .int .i64 0] 40)).alloc (.cells #[.int .i64 (-1), .int .i64 0] 40)) := ⟨_, rfl⟩
  rw [← hy] at E0 ⊢
  clear hy
  have k0 := E0.out.x5.cell 0 _ rfl
  have k1 := E0.out.x5.cell 1 _ rfl
  have k2 := E0.out.x5.cell 2 _ rfl
  have k3 := E0.out.x5.cell 3 _ rfl
  have k4 := E0.out.x5.cell 4 _ rfl
  have r_a := E0.out.fr.get (k := a) (by omega)
  have fzF := fun k => E0.out.fr.fz k
  rw [hra] at r_a
  go_quiet (fail)
  have E1 := Lib.hid (E0.out.drewN nq)
  obtain ⟨y2, hz⟩ : ∃ z, z = (y.drewN nq) := ⟨_, rfl⟩
  rw [← hz] at E1 ⊢
  clear hz E0
  clear k0 k1 k2 k3 k4 fzF r_a
  have k0 := E1.out.x5.cell 0 _ rfl
  have k1 := E1.out.x5.cell 1 _ rfl
  have k2 := E1.out.x5.cell 2 _ rfl
  have k3 := E1.out.x5.cell 3 _ rfl
  have k4 := E1.out.x5.cell 4 _ rfl
  have r_a := E1.out.fr.get (k := a) (by omega)
  have fzF := fun k => E1.out.fr.fz k
  have w2 := E1.out.wa.cT
  have w3 := E1.out.wa.cL
  have HU := Lib.hid (unpark_calls y2 B bW bT bL j s p E1.out.wa HP.out hpb)
  go_wp2_with fail
  refine HU.out.mono ?_
  rintro e y3 ⟨rfl, h2, h3⟩
  have E2 := Lib.hid (E1.out.call h2 h3)
  clear h2 h3 w2 w3 HU
  clear k0 k1 k2 k3 k4 fzF r_a
  obtain ⟨p9, q9, h9⟩ := E2.out.x9
  have m0 := h9.cell 0 _ rfl
  have m1 := h9.cell 1 _ rfl
  have mf := fun i => h9.ty.frozen i
  have r0 := E2.out.x11.cell 0 _ rfl
  have r1 := E2.out.x11.cell 1 _ rfl
  clear h9
  go_wp2_with fail
  go_region
  go_wp2_with fail
  have EF := (E2.out.set9 (-1) 0).drew
  refine bodyPost_ret (v := .tuple #[.int .i64 1, .agg #[.int .i64 (-1), .int .i64 0], .int .i64 0]) ?_ rfl ?_
  · simp [results, Try.results47, go_sem, m0, m1]
  · exact ⟨rfl, EF.wa, EF.fr, EF.ch⟩
set_option maxRecDepth 100000 in
set_option maxHeartbeats 3200000 in
theorem one_park (w : World) (B bW bT bL bF a b c i : Nat) (n : Int) (f : Fr) (s : St) (ha : a ≤ 15) (hb : b ≤ 15) (hc : c ≤ 15) (hW : WAt B bW bT bL s w) (hF : FrAt bF f w) (hB : B ≤ bF) (p : Prk) (hp : s.thr[i]? = some p) (hpp : p.permit = false) (hpf : p.flag = false) (hra : f.R a = -1) :
    Calls Try.prog 47 #[.pointer (some ⟨bW, 0, none⟩), .agg #[.int .i64 14, .int .i64 a, .int .i64 b, .int .i64 c, .int .i64 n], .int .i64 i, .pointer (some ⟨bF, 0, none⟩)] w
      (OnePost w B bW bT bL bF 3 (-1) 0 1 f { s with thr := s.thr.set i { p with blocked := true, dl := -1 } }) := by
  have a0 : (0 : Int) ≤ (a : Int) := by omega
  have a1 : (a : Int) < 16 := by omega
  have b0 : (0 : Int) ≤ (b : Int) := by omega
  have b1 : (b : Int) < 16 := by omega
  have c0 : (0 : Int) ≤ (c : Int) := by omega
  have c1 : (c : Int) < 16 := by omega
  have E0 := Lib.hid (Env.start hW hF hB [.int .i64 14, .int .i64 a, .int .i64 b, .int .i64 c, .int .i64 n])
  clear hW hF
  have HP := Lib.hid hp
  clear hp
  go_enter Try.func47, Try.ntmps47
  go_wp2_with fail
  obtain ⟨y, hy⟩ : ∃ y, y = (((w.alloc (.cells #[.int .i64 14, .int .i64 a, .int .i64 b, .int .i64 c, .int .i64 n] 95)).alloc (.cells #[.int .i64 0, .int .i64 0] 40)).alloc (.cells #[.int .i64 (-1), .int .i64 0] 40)) := ⟨_, rfl⟩
  rw [← hy] at E0 ⊢
  clear hy
  have k0 := E0.out.x5.cell 0 _ rfl
  have k1 := E0.out.x5.cell 1 _ rfl
  have k2 := E0.out.x5.cell 2 _ rfl
  have k3 := E0.out.x5.cell 3 _ rfl
  have k4 := E0.out.x5.cell 4 _ rfl
  have r_a := E0.out.fr.get (k := a) (by omega)
  have fzF := fun k => E0.out.fr.fz k
  rw [hra] at r_a
  go_quiet (fail)
  have E1 := Lib.hid (E0.out.drewN nq)
  obtain ⟨y2, hz⟩ : ∃ z, z = (y.drewN nq) := ⟨_, rfl⟩
  rw [← hz] at E1 ⊢
  clear hz E0
  clear k0 k1 k2 k3 k4 fzF r_a
  have k0 := E1.out.x5.cell 0 _ rfl
  have k1 := E1.out.x5.cell 1 _ rfl
  have k2 := E1.out.x5.cell 2 _ rfl
  have k3 := E1.out.x5.cell 3 _ rfl
  have k4 := E1.out.x5.cell 4 _ rfl
  have r_a := E1.out.fr.get (k := a) (by omega)
  have fzF := fun k => E1.out.fr.fz k
  rw [hra] at r_a
  go_wp2_with fail
  refine Mix.region [0, 1, 2, 3, 4, 5, 6, 7, 8, 9, 10, 11] [12, 13] 0 (fun w' => Env w B bW bT bL bF [.int .i64 14, .int .i64 a, .int .i64 b, .int .i64 c, .int .i64 n] f s w') (by kernel_rfl) (by kernel_rfl) E1.out.drew ?_
  repeat (apply Mix.step; (· rfl); (· intro w' hR V hV; have q1 := hR.x5.cell 1 _ rfl; have q2 := hR.wa.cT; have q3 := hR.fr.get (k := a) (by omega); rw [hra] at q3; go_simp; exact hV); intro K hK; go_simp; refine hK _ ?_; clear hK K)
  refine Mix.nil ?_
  simp only [Mix.Tail, Mix.pick, List.getElem?_cons_succ, List.getElem?_cons_zero]
  go_wp2_with fail
  refine (park_calls _ B bW bT bL i (-1) s p E1.out.wa.drew HP.out hpp hpf (by decide)).mono ?_
  rintro e y3 ⟨rfl, hw2, hch⟩
  have E2 := Lib.hid (E1.out.drew.call hw2 hch)
  clear hw2 hch
  clear k0 k1 k2 k3 k4 fzF r_a
  go_wp2_with fail
  refine Mix.calm_end ?_
  obtain ⟨p9, q9, h9⟩ := E2.out.x9
  have m0 := h9.cell 0 _ rfl
  have m1 := h9.cell 1 _ rfl
  have mf := fun i => h9.ty.frozen i
  have r0 := E2.out.x11.cell 0 _ rfl
  have r1 := E2.out.x11.cell 1 _ rfl
  clear h9
  go_wp2_with fail
  go_region
  go_wp2_with fail
  have EF := (E2.out.set9 (-1) 0).drew
  refine bodyPost_ret (v := .tuple #[.int .i64 3, .agg #[.int .i64 (-1), .int .i64 0], .int .i64 1]) ?_ rfl ?_
  · simp [results, Try.results47, go_sem, m0, m1]
  · exact ⟨rfl, EF.wa, EF.fr, EF.ch⟩
end Go.Proofs.Ytegjkheecbmioaa
