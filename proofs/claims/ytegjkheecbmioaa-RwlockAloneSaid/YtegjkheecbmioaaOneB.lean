/- Walks of the reference world's small methods: in, alloc, Park, Unpark. -/
import Derived.Test.YtegjkheecbmioaaOneA
import Derived.Outline
namespace Go.Proofs.Ytegjkheecbmioaa
open Go.RowKit
set_option linter.unusedVariables false
set_option linter.unusedSimpArgs false
section
variable {w : World} {B bW bT bL : Nat} {s : St}
theorem WAt.c0 (h : WAt B bW bT bL s w) {k : Nat} (hk : k < s.cells.length) : ∃ g cap, w.cell? ⟨bW, 0, none⟩ = some (.slice (some ⟨g, 0, none⟩) s.cells.length cap) ∧ s.cells.length ≤ cap ∧ IsT g 2 w ∧ B ≤ g ∧
    (∀ k x, s.cells[k]? = some x → w.cell? ⟨g, k, none⟩ = some (.int .i64 x)) := by
  obtain ⟨v, hv, ho⟩ := h.cC
  obtain ⟨g, cap, rfl, h1, h2, h3, h4⟩ := i64_at ho (List.getElem?_eq_getElem hk)
  refine ⟨g, cap, hv, h1, h3, h4, fun k x hx => ?_⟩
  obtain ⟨g', cap', e, _, h2', _⟩ := i64_at ho hx
  simp only [Value.slice.injEq, Option.some.injEq, Addr.mk.injEq, and_true, true_and] at e
  rw [e.1]
  exact h2'
end
set_option maxRecDepth 100000 in
set_option maxHeartbeats 1600000 in
theorem in_calls (w : World) (B bW bT bL k : Nat) (s : St) (hW : WAt B bW bT bL s w) (hk : k < s.cells.length) (hl : s.cells.length ≤ 100000) :
    Calls Try.prog 55 #[.pointer (some ⟨bW, 0, none⟩), .int .i64 ((k : Int) + 1)] w fun e w' => e = .returned (.bool true) ∧ w = w' := by
  obtain ⟨g, cap, h0, _⟩ := hW.c0 hk
  have d1 : decide ((1 : Int) ≤ (k : Int) + 1) = true := decide_eq_true (by omega)
  have d2 : decide ((k : Int) + 1 ≤ (s.cells.length : Int)) = true := decide_eq_true (by omega)
  have hm : (s.cells.length : Int) ≤ 9223372036854775807 := by omega
  go_enter Try.func55, Try.ntmps55
  go_wp2
  go_ret
  exact ⟨rfl, rfl⟩
theorem info_i64 : (Try.prog.info? 2).map (fun i => (i.zero, i.size, i.bytes)) = some (some (.int .i64 0), 1, 8) := by kernel_rfl
theorem zs_map (m : Nat) : zs m = (List.replicate m (0 : Int)).map i64V := by simp [zs, i64V]
/-- A new value of the slice of cells is laid into the world's block. -/
theorem WAt.setS {w w3 : World} {B bW bT bL : Nat} {s : St} (h : WAt B bW bT bL s w) {v' : Value} {cs : List Int} (hs : Ch B (fun _ => False) w w3) (hk : ∀ k, (k = bW ∨ k = bT ∨ k = bL) → w3.heap[k]? = w.heap[k]?) (ho : w3.ownsRow B 2 1 v' cs.length (cs.map i64V)) :
    WAt B bW bT bL { s with cells := cs } (w3.setCell ⟨bW, 0, none⟩ v') ∧ Ch B (fun _ => False) w (w3.setCell ⟨bW, 0, none⟩ v') := by
  have kW := hk bW (.inl rfl)
  have kT := hk bT (.inr (.inl rfl))
  have kL := hk bL (.inr (.inr rfl))
  have tW := h.tW.keep kW
  have tT := h.tT.keep kT
  have tL := h.tL.keep kL
  obtain ⟨v, hv, _⟩ := h.cC
  have hv3 : w3.cell? ⟨bW, 0, none⟩ = some v := (World.cell?_of_block kW).trans hv
  have n1 : bT ≠ bW := fun e => absurd ((e ▸ h.tT).uniq h.tW) (by decide)
  have n2 : bL ≠ bW := fun e => absurd ((e ▸ h.tL).uniq h.tW) (by decide)
  refine ⟨⟨tW.set _ _, tT.set _ _, tL.set _ _, ⟨v', cell_set_same hv3 rfl, own_set ho _ _ (fun e => absurd ((own_ty ho e).uniq tW) (by decide))⟩, (cell_set_off ((World.cell?_of_block kW).trans h.cM) (by decide)), (cell_set_off ((World.cell?_of_block kW).trans h.cT) (by decide)),
    (cell_set_ne _ _ _ _ n1).trans ((World.cell?_of_block kT).trans h.cL), (cell_set_ne _ _ _ _ n1).trans ((World.cell?_of_block kT).trans h.cN), fun i p hp => ?_, ⟨h.bB.1, h.bB.2.1, h.bB.2.2.1, Nat.le_trans h.bB.2.2.2 (Nat.le_trans hs.on.size (by simp [World.setCell]))⟩, h.tl⟩,
    hs.set (.inr ⟨h.bB.1, .inl tW⟩) _⟩
  obtain ⟨a, b, c, d⟩ := h.th i p hp
  exact ⟨(cell_set_ne _ _ _ _ n2).trans ((World.cell?_of_block kL).trans a), (cell_set_ne _ _ _ _ n2).trans ((World.cell?_of_block kL).trans b), (cell_set_ne _ _ _ _ n2).trans ((World.cell?_of_block kL).trans c), (cell_set_ne _ _ _ _ n2).trans ((World.cell?_of_block kL).trans d)⟩
set_option maxRecDepth 100000 in
set_option maxHeartbeats 1600000 in
theorem due_calls (w : World) (bT : Nat) (d : Int) (hd : d < 0) : Calls Try.prog 67 #[.pointer (some ⟨bT, 0, none⟩), .int .i64 d] w fun e w' => e = .returned (.bool false) ∧ w = w' := by
  have d1 : decide ((0 : Int) ≤ d) = false := decide_eq_false (by omega)
  go_enter Try.func67, Try.ntmps67
  go_wp2
  go_ret
  exact ⟨rfl, rfl⟩
set_option maxRecDepth 100000 in
set_option maxHeartbeats 3200000 in
theorem park_calls (w : World) (B bW bT bL i : Nat) (d : Int) (s : St) (p : Prk) (hW : WAt B bW bT bL s w) (hp : s.thr[i]? = some p) (h1 : p.permit = false) (h2 : p.flag = false) (hd : d < 0) :
    Calls Try.prog 56 #[.pointer (some ⟨bT, 0, none⟩), .int .i64 i, .int .i64 d] w fun e w' => e = .returned (.bool true) ∧ WAt B bW bT bL { s with thr := s.thr.set i { p with blocked := true, dl := d } } w' ∧ Ch B (fun _ => False) w w' := by
  have hi : i < s.thr.length := (List.getElem?_eq_some_iff.1 hp).1
  have htl := hW.tl
  obtain ⟨a0, a1, a2, a3⟩ := hW.th i p hp
  rw [h1] at a0
  rw [h2] at a1
  have l0 := hW.cL
  have n0 := hW.cN
  have fz := fun k => hW.tL.frozen k
  have d1 : decide ((0 : Int) ≤ d) = false := decide_eq_false (by omega)
  have HW := Lib.hid hW
  have HP := Lib.hid hp
  clear hW hp
  go_enter Try.func56, Try.ntmps56
  go_wp2_with (go_at_call 67; refine (due_calls _ _ _ hd).mono ?_; rintro e w' ⟨rfl, rfl⟩)
  have q1 := HW.out.setT (i := i) (p' := { p with blocked := true }) (j := 2) (u := .bool true) HP.out (.inr (.inr (.inl ⟨rfl, rfl, rfl⟩)))
  have hg : (s.thr.set i { p with blocked := true })[i]? = some { p with blocked := true } := by simp [hi]
  have q2 := q1.setT (i := i) (p' := { p with blocked := true, dl := d }) (j := 3) (u := .int .i64 d) hg (.inr (.inr (.inr ⟨rfl, rfl, rfl⟩)))
  rw [List.set_set] at q2
  go_ret
  exact ⟨rfl, q2, ((Ch.refl _ _ _).set (.inr ⟨HW.out.bB.2.2.1, .inr (.inr (.inl HW.out.tL))⟩) _).set (.inr ⟨HW.out.bB.2.2.1, .inr (.inr (.inl (HW.out.tL.set _ _)))⟩) _⟩
set_option maxRecDepth 100000 in
set_option maxHeartbeats 1600000 in
theorem on_calls (w : World) (B bW bT bL i : Nat) (s : St) (p : Prk) (hW : WAt B bW bT bL s w) (hp : s.thr[i]? = some p) :
    Calls Try.prog 68 #[.pointer (some ⟨bT, 0, none⟩), .int .i64 i] w fun e w' => e = .returned (.tuple #[]) ∧ WAt B bW bT bL { s with thr := s.thr.set i { p with blocked := false, dl := 0 } } w' ∧ Ch B (fun _ => False) w w' := by
  have hi : i < s.thr.length := (List.getElem?_eq_some_iff.1 hp).1
  have htl := hW.tl
  obtain ⟨a0, a1, a2, a3⟩ := hW.th i p hp
  have l0 := hW.cL
  have fz := fun k => hW.tL.frozen k
  have HW := Lib.hid hW
  have HP := Lib.hid hp
  clear hW hp
  go_enter Try.func68, Try.ntmps68
  go_wp2_with fail
  have q1 := HW.out.setT (i := i) (p' := { p with blocked := false }) (j := 2) (u := .bool false) HP.out (.inr (.inr (.inl ⟨rfl, rfl, rfl⟩)))
  have hg : (s.thr.set i { p with blocked := false })[i]? = some { p with blocked := false } := by simp [hi]
  have q2 := q1.setT (i := i) (p' := { p with blocked := false, dl := 0 }) (j := 3) (u := .int .i64 0) hg (.inr (.inr (.inr ⟨rfl, rfl, rfl⟩)))
  rw [List.set_set] at q2
  go_end0
  exact ⟨rfl, q2, ((Ch.refl _ _ _).set (.inr ⟨HW.out.bB.2.2.1, .inr (.inr (.inl HW.out.tL))⟩) _).set (.inr ⟨HW.out.bB.2.2.1, .inr (.inr (.inl (HW.out.tL.set _ _)))⟩) _⟩
set_option maxRecDepth 100000 in
set_option maxHeartbeats 1600000 in
theorem unpark_calls (w : World) (B bW bT bL i : Nat) (s : St) (p : Prk) (hW : WAt B bW bT bL s w) (hp : s.thr[i]? = some p) (hb : p.blocked = true) :
    Calls Try.prog 57 #[.pointer (some ⟨bT, 0, none⟩), .int .i64 i] w fun e w' => e = .returned (.tuple #[]) ∧ WAt B bW bT bL { s with thr := s.thr.set i { p with blocked := false, dl := 0 } } w' ∧ Ch B (fun _ => False) w w' := by
  have hi : i < s.thr.length := (List.getElem?_eq_some_iff.1 hp).1
  have htl := hW.tl
  obtain ⟨a0, a1, a2, a3⟩ := hW.th i p hp
  rw [hb] at a2
  have l0 := hW.cL
  have HW := Lib.hid hW
  have HP := Lib.hid hp
  clear hW hp
  go_enter Try.func57, Try.ntmps57
  go_wp2_with fail
  refine (on_calls _ _ _ _ _ _ _ _ HW.out HP.out).mono ?_
  rintro e w2 ⟨rfl, h2, h3⟩
  have H2 := Lib.hid h2
  have H3 := Lib.hid h3
  clear h2 h3
  go_wp2_with fail
  go_end0
  exact ⟨rfl, H2.out, H3.out⟩
theorem own_mono {w : World} {b b' e s n : Nat} {v : Value} {xs : List Value} (h : w.ownsRow b e s v n xs) (hb : b' ≤ b) : w.ownsRow b' e s v n xs := by
  refine ⟨h.1, ?_⟩
  rcases h.2 with h2 | ⟨g, cap, cur, e1, e2, rest⟩
  · exact .inl h2
  · exact .inr ⟨g, cap, cur, e1, Nat.le_trans hb e2, rest⟩
theorem src_own {w : World} {B : Nat} {v : Value} {xs : List Int} (h : w.ownsRow B 2 1 v xs.length (xs.map i64V)) : Src w v xs.length (xs.map i64V) := by
  have h1 : ∀ u ∈ xs.map i64V, u.oneCell' = true := by intro u hu; obtain ⟨x, _, rfl⟩ := List.mem_map.1 hu; rfl
  rcases h.2 with ⟨rfl, h0⟩ | ⟨g, cap, cur, rfl, hb, hh, hnc, hcm, hcs, ht⟩
  · have : xs = [] := List.length_eq_zero_iff.1 h0
    subst this
    exact ⟨none, 0, rfl, h1, .inl ⟨rfl, rfl⟩⟩
  · refine ⟨_, _, rfl, h1, .inr ⟨_, rfl, fun j u hu => ?_⟩⟩
    have hx : ∃ x, xs[j]? = some x ∧ i64V x = u := by rw [List.getElem?_map] at hu; obtain ⟨x, hx, e⟩ := Option.map_eq_some_iff.1 hu; exact ⟨x, hx, e⟩
    obtain ⟨x, hx, rfl⟩ := hx
    obtain ⟨g', cap', e, _, hc, _⟩ := i64_at h hx
    simp only [Value.slice.injEq, Option.some.injEq, Addr.mk.injEq, and_true, true_and] at e
    obtain ⟨rfl, rfl⟩ := e
    have e2 : (Addr.add ⟨g, 0, none⟩ j) = ⟨g, j, none⟩ := by
      unfold Addr.add
      split
      · rename_i e; rw [e]
      · simp
    rw [e2]
    exact hc
set_option maxRecDepth 100000 in
set_option maxHeartbeats 3200000 in
theorem alloc_calls (w : World) (B bW bT bL m : Nat) (s : St) (hW : WAt B bW bT bL s w) (hm : 1 ≤ m) (hl : m + s.cells.length ≤ 4096) (hc : 0 < s.cells.length) :
    Calls Try.prog 58 #[.pointer (some ⟨bW, 0, none⟩), .int .i64 m] w
      fun e w' => e = .returned (.int .i64 ((s.cells.length : Int) + 1)) ∧ WAt B bW bT bL { s with cells := s.cells ++ List.replicate m 0 } w' ∧ Ch B (fun _ => False) w w' := by
  obtain ⟨i0, hi0, hz0, hs0, hb0⟩ := info_parts info_i64
  have hu : Try.prog.underlying 60 = some (.slice 2) := Try.underlying60
  have hu2 : Try.prog.underlying 3 = some (.int .i64) := by kernel_rfl
  obtain ⟨v0, h0, ho⟩ := hW.cC
  obtain ⟨A0, cc, rfl, hcap⟩ : ∃ A c, v0 = .slice A s.cells.length c ∧ s.cells.length ≤ c := by
    rcases ho.2 with ⟨_, h⟩ | ⟨g, cap, cur, e, _, _, h, _⟩
    · omega
    · exact ⟨_, _, e, h⟩
  have c1 := hW.cM
  have hWl := hW.tW.lt
  have hBs := hW.bB.2.2.2
  have fz := fun k => hW.tW.frozen k
  have d1 : decide ((m : Int) < 1) = false := decide_eq_false (by omega)
  have d2 : decide (4096 - (s.cells.length : Int) < (m : Int)) = false := decide_eq_false (by omega)
  have HW := Lib.hid hW
  have HO := Lib.hid ho
  clear hW ho
  go_enter Try.func58, Try.ntmps58
  go_wp2_with fail
  go_quiet (fail)
  obtain ⟨y, hy⟩ : ∃ y, y = w.drewN nq := ⟨_, rfl⟩
  have HY := Lib.hid (HW.out.drewN nq)
  have HOY := Lib.hid (show (w.drewN nq).ownsRow B 2 1 (.slice A0 s.cells.length cc) s.cells.length (s.cells.map i64V) from HO.out)
  have hys : B ≤ (w.drewN nq).heap.size := hBs
  have hyl : bW < (w.drewN nq).heap.size := hWl
  have h0y : (w.drewN nq).cell? ⟨bW, 0, none⟩ = some (.slice A0 s.cells.length cc) := h0
  have fzy : ∀ k, (w.drewN nq).frozen? ⟨bW, k, none⟩ = false := fz
  have CY := Lib.hid ((Ch.refl B (fun _ => False) w).drewN nq)
  rw [← hy] at HY HOY hys hyl h0y fzy CY ⊢
  clear hy HW HO h0 fz c1 hBs hWl
  go_wp2_with (first | (at_builtin; go_loud (refine wpList_append_uni rfl _ _ 60 rfl y.heap.size 2 i0 _ 1 8 hu hi0 hz0 hs0 hb0 rfl (by decide) _ _ _ rfl (by exact World.ownsRow_lit y #[] 0 (Nat.le_refl _) (by decide) rfl) _ s.cells.length (s.cells.map i64V) rfl (by simp) (src_own (own_below HOY.out (by (repeat (with_reducible first | exact Below.refl _ _ | assumption | apply below_alloc | apply below_drewN | apply below_drew1 | (refine below_set ?_ (by simp only [alloc_size]; omega)) | (refine below_step ?_ (by assumption))))))) (by unfold maxLen; omega) (by omega) (by simp only [alloc_size]; omega) ?_)))
  intro A3 c3 w3 o3 g3 h3'
  have o3' : w3.ownsRow y.heap.size 2 1 (.slice A3 s.cells.length c3) s.cells.length (s.cells.map i64V) := by simpa using o3
  have hb3 : Below y.heap.size y w3 := below_grown (by (repeat (with_reducible first | exact Below.refl _ _ | assumption | apply below_alloc | apply below_drewN | apply below_drew1 | (refine below_set ?_ (by simp only [alloc_size]; omega)) | (refine below_step ?_ (by assumption))))) g3 (by rw [alloc_size]; omega) (fun k hk => by simp [Value.ownBlock] at hk; omega)
  have HO3 := Lib.hid o3'
  have HB3 := Lib.hid hb3
  have hz3 := hb3.size
  have hq3 := cell_below_of h0y hb3
  clear o3 g3 h3' o3' hb3 h0y
  try simp only [Nat.zero_add]
  go_wp2_with (first | (at_builtin; go_loud (refine wpList_append_zeros rfl _ _ 60 3 rfl y.heap.size 2 i0 hu hu2 hi0 hz0 hs0 hb0 _ s.cells.length (s.cells.map i64V) rfl (by exact HO3.out) m rfl (by omega) (by omega) (by omega) (by omega) ?_)))
  intro A4 c4 w4 o4 g4
  have hb4 : Below y.heap.size y w4 := below_grown HB3.out g4 hz3 (fun k hk => own_base HO3.out k hk)
  have hq4 := cell_below_of (cell_below_of hq3 (Below.refl _ _)) (Below.refl _ _)
  have hqq : w4.cell? ⟨bW, 0, none⟩ = some (.slice A0 s.cells.length cc) := (World.cell?_of_block (hb4.block bW hyl)).trans (by have := World.cell?_of_block (a := ⟨bW, 0, none⟩) (HB3.out.block bW hyl); rw [← this]; exact hq3)
  have hff : w4.frozen? ⟨bW, 0, none⟩ = false := (HY.out.tW.keep (hb4.block bW hyl)).frozen 0
  have hrow : w4.ownsRow B 2 1 (.slice A4 (s.cells.length + m) c4) (s.cells ++ List.replicate m 0).length ((s.cells ++ List.replicate m 0).map i64V) := by
    have := own_mono o4 hys
    rw [zs_map] at this
    simpa using this
  have hfin := HY.out.setS (v' := .slice A4 (s.cells.length + m) c4) (cs := s.cells ++ List.replicate m 0) (Ch.below hb4) (fun k hk => hb4.block k (by
    rcases hk with rfl | rfl | rfl
    · exact HY.out.tW.lt
    · exact HY.out.tT.lt
    · exact HY.out.tL.lt)) hrow
  have HF := Lib.hid hfin
  clear o4 g4 hb4 hq3 hq4 hrow hfin
  go_wp2_with fail
  go_ret
  exact ⟨rfl, HF.out.1, CY.out.trans HF.out.2⟩
end Go.Proofs.Ytegjkheecbmioaa
